/- The library at classes, instances, requirements and names; the closures of package classes. -/
import Derived.Test.YtdljlpogljjldaaDoorCDef
import Derived.Deep.QuietTactic
import Derived.BigQuiet
namespace Go.Proofs.YtdljlpogljjldaaDoor
open Go.RowKit Go.Shelf Go.Sort
theorem infoStr : (Tryd.prog.info? 9).map (fun i => (i.zero, i.size, i.bytes)) = some (some (.string ⟨#[]⟩), 1, 16) := by kernel_rfl
theorem rp_strs (W : World) : ∀ (l : List ByteArray), (∀ y ∈ l, y.size ≤ maxLen) → ∀ F : Nat → Prop, RpAll W F (l.map dStr) (l.map Value.string) := by
  intro l
  induction l with
  | nil => intro _ F; simp [RpAll]
  | cons y l ih => intro hl F; rw [List.map_cons, rpAll_cons]; exact ⟨[.string y], l.map Value.string, rfl, rp_str.2 ⟨rfl, hl y (by simp)⟩, ih (fun z hz => hl z (by simp [hz])) F⟩
set_option maxHeartbeats 400000 in
theorem strIndex (l : List ByteArray) (x : ByteArray) (v : Value) (F : Nat → Prop) (w : World) (hv : Sl w F dStr l v) :
    Calls Tryd.prog 50 #[v, .string x] w fun e w' => e = .returned (.int .i64 (idxInt (fun y => decide (x = y)) l)) ∧ w = w' := by
  obtain ⟨A, c, rfl, hlc, hcm, _⟩ := hv.form
  have hl : l.length ≤ 9223372036854775807 := by unfold maxLen at hcm; omega
  go_enter Tryd.func50, Tryd.ntmps50
  go_wp2
  go_loopw [5, 8] (fun _ i wr => ∃ k : Nat, k ≤ l.length ∧ i = .int .i64 k ∧ w = wr ∧ Hid (idxInt (fun y => decide (x = y)) l = idxFrom (fun y => decide (x = y)) (l.drop k) k)) (fun _ i _ => l.length - (intOf i).toNat)
  case atStart => exact ⟨0, Nat.zero_le _, rfl, by trivial, rfl⟩
  case round =>
    obtain ⟨k, hk, rfl, rfl, hno⟩ := hrel
    by_cases hlt : k < l.length
    · obtain ⟨g, off, rfl, hF, c0, s0⟩ := dStr.get hv hlt
      have hst := idxFrom_step (fun y => decide (x = y)) l k hlt
      by_cases hp : x = l[k]
      · have HE := Lib.hid (hno.out.trans (hst.2 (by simpa using hp)))
        have e := str_yes hp
        clear hst hp
        go_wp2_with fail
        go_ret
        exact ⟨ret_int HE.out.symm, rfl⟩
      · have HE := Lib.hid (hno.out.trans (hst.1 (by simpa using hp)))
        have e := str_no hp
        clear hst hp
        go_wp2_with fail
        go_roundw
        case rel => exact ⟨k + 1, by omega, by go_num, by trivial, HE.out⟩
        case measure => simp [intOf]; omega
    · have HE := Lib.hid (hno.out.trans (idxFrom_end (fun y => decide (x = y)) l k (by omega)))
      go_wp2
      go_ret
      exact ⟨ret_int HE.out.symm, rfl⟩
theorem strContains (l : List ByteArray) (x : ByteArray) (v : Value) (F : Nat → Prop) (w : World) (hv : Sl w F dStr l v) :
    Calls Tryd.prog 39 #[v, .string x] w fun e w' => e = .returned (.bool (l.any (fun y => decide (x = y)))) ∧ w = w' := by
  have HN := Lib.hid (strIndex l x v F w hv)
  have HE := Lib.hid (idxInt_any (fun y => decide (x = y)) l)
  clear hv
  go_enter Tryd.func39, Tryd.ntmps39
  go_wp2_with fail
  with_reducible refine HN.out.mono ?_
  rintro e w1 ⟨rfl, rfl⟩
  go_wp2
  go_ret
  exact ⟨ret_bool (by rw [HE.out]), rfl⟩
theorem strs_news {W : World} {F : Nat → Prop} : ∀ (l : List ByteArray) (news : List Value), RpAll W F (l.map dStr) news → news = l.map Value.string
  | [], news, h => by simp only [List.map_nil, RpAll] at h; simpa using h
  | x :: l, news, h => by
    rw [List.map_cons, rpAll_cons] at h
    obtain ⟨a, b, rfl, h1, h2⟩ := h
    have h1' : a = [Value.string x] := (rp_str.1 h1).1
    rw [h1', strs_news l b h2]
    rfl
/-- A row of the call's own, as a list. -/
theorem own_strs {W : World} {base : Nat} {v : Value} {l : List ByteArray} (h : W.ownsRow base 9 1 v l.length (l.map Value.string)) (hs : ∀ y ∈ l, y.size ≤ maxLen) : Sl W (fun b => base ≤ b) dStr l v :=
  Sl.of_own (F := fun _ => False) h rfl (rp_strs W l hs _) (fun _ h => h.elim) (fun b hb => (h.lt b hb).1)
theorem Sl.sizes {W : World} {F : Nat → Prop} {l : List ByteArray} {v : Value} (h : Sl W F dStr l v) : ∀ y ∈ l, y.size ≤ maxLen := fun y hy => by
  obtain ⟨A, c, rfl, _⟩ := h.form
  obtain ⟨i, hi, rfl⟩ := List.getElem_of_mem hy
  obtain ⟨_, _, _, _, _, h6⟩ := dStr.get h hi
  exact h6
set_option maxHeartbeats 400000 in
theorem strIndexFunc (l : List ByteArray) (v : Value) (F : Nat → Prop) (w : World) (hv : Sl w F dStr l v) (m : FuncId) (cap : Array Value) (p : ByteArray → Bool)
    (eg : Enters Tryd.prog m) (hc : ∀ x : ByteArray, Calls Tryd.prog m (#[.string x] ++ cap) w fun e w' => e = .returned (.bool (p x)) ∧ w = w') :
    Calls Tryd.prog 51 #[v, .func (.func m) #[] cap] w fun e w' => e = .returned (.int .i64 (idxInt p l)) ∧ w = w' := by
  obtain ⟨A, c, rfl, hlc, hcm, _⟩ := hv.form
  have hl : l.length ≤ 9223372036854775807 := by unfold maxLen at hcm; omega
  have HC := Lib.hid hc
  clear hc
  unfold Enters at eg
  go_enter Tryd.func51, Tryd.ntmps51
  go_wp2
  go_loopw [5, 8] (fun _ i wr => ∃ k : Nat, k ≤ l.length ∧ i = .int .i64 k ∧ w = wr ∧ Hid (idxInt p l = idxFrom p (l.drop k) k)) (fun _ i _ => l.length - (intOf i).toNat)
  case atStart => exact ⟨0, Nat.zero_le _, rfl, by trivial, rfl⟩
  case round =>
    obtain ⟨k, hk, rfl, rfl, hno⟩ := hrel
    by_cases hlt : k < l.length
    · obtain ⟨g, off, rfl, hF, c0, s0⟩ := dStr.get hv hlt
      have HN := Lib.hid (HC.out l[k])
      have hst := idxFrom_step p l k hlt
      cases hp : p l[k]
      · have HE := Lib.hid (hno.out.trans (hst.1 hp))
        rw [hp] at HN
        clear hst hp
        go_wp2_with fail
        refine HN.out.mono ?_
        rintro e w1 ⟨rfl, rfl⟩
        go_wp2
        go_roundw
        case rel => exact ⟨k + 1, by omega, by go_num, by trivial, HE.out⟩
        case measure => simp [intOf]; omega
      · have HE := Lib.hid (hno.out.trans (hst.2 hp))
        rw [hp] at HN
        clear hst hp
        go_wp2_with fail
        refine HN.out.mono ?_
        rintro e w1 ⟨rfl, rfl⟩
        go_wp2
        go_ret
        exact ⟨ret_int HE.out.symm, rfl⟩
    · have HE := Lib.hid (hno.out.trans (idxFrom_end p l k (by omega)))
      go_wp2
      go_ret
      exact ⟨ret_int HE.out.symm, rfl⟩
set_option maxHeartbeats 400000 in
theorem strContainsFunc (l : List ByteArray) (v : Value) (F : Nat → Prop) (w : World) (hv : Sl w F dStr l v) (m : FuncId) (cap : Array Value) (p : ByteArray → Bool)
    (eg : Enters Tryd.prog m) (hc : ∀ x : ByteArray, Calls Tryd.prog m (#[.string x] ++ cap) w fun e w' => e = .returned (.bool (p x)) ∧ w = w') :
    Calls Tryd.prog 40 #[v, .func (.func m) #[] cap] w fun e w' => e = .returned (.bool (l.any p)) ∧ w = w' := by
  have HN := Lib.hid (strIndexFunc l v F w hv m cap p eg hc)
  have HE := Lib.hid (idxInt_any p l)
  clear hc hv eg
  go_enter Tryd.func40, Tryd.ntmps40
  go_wp2_with fail
  refine HN.out.mono ?_
  rintro e w1 ⟨rfl, rfl⟩
  go_wp2
  go_ret
  exact ⟨ret_bool (by rw [HE.out]), rfl⟩

set_option maxHeartbeats 400000 in
theorem clsIndexFunc (l : List ClassSig) (v : Value) (F : Nat → Prop) (w : World) (hv : Sl w F ClassSig.d l v) (m : FuncId) (cap : Array Value) (p : ClassSig → Bool)
    (eg : Enters Tryd.prog m) (hc : ∀ i (h : i < l.length) cs w1, Below w.heap.size w w1 → Rp w1 F (ClassSig.d l[i]) cs → Calls Tryd.prog m (#[.agg cs.toArray] ++ cap) w1 fun e w' => e = .returned (.bool (p l[i])) ∧ Below w1.heap.size w1 w') :
    Calls Tryd.prog 49 #[v, .func (.func m) #[] cap] w fun e w' => e = .returned (.int .i64 (idxInt p l)) ∧ Below w.heap.size w w' := by
  obtain ⟨A, c, rfl, hlc, hcm, _⟩ := hv.form
  have hl : l.length ≤ 9223372036854775807 := by unfold maxLen at hcm; omega
  have HC := Lib.hid hc
  clear hc
  unfold Enters at eg
  go_enter Tryd.func49, Tryd.ntmps49
  go_wp2
  go_loopw [5, 8] (fun _ i wr => ∃ k : Nat, k ≤ l.length ∧ i = .int .i64 k ∧ Below w.heap.size w wr ∧ Hid (idxInt p l = idxFrom p (l.drop k) k)) (fun _ i _ => l.length - (intOf i).toNat)
  case atStart => exact ⟨0, Nat.zero_le _, rfl, Below.refl _ _, rfl⟩
  case round =>
    obtain ⟨k, hk, rfl, hb, hno⟩ := hrel
    by_cases hlt : k < l.length
    · have hv' := hv.later hb
      obtain ⟨g, off, v1, v2, rfl, hF, c0, c1, c2, s0, s1, s2⟩ := ClassSig.get hv' hlt
      have HN := Lib.hid (HC.out k hlt [.string l[k].name, v1, v2] _ hb (ClassSig.rp.2 ⟨_, _, rfl, s0, s1, s2⟩))
      have hst := idxFrom_step p l k hlt
      cases hp : p l[k]
      · have HE := Lib.hid (hno.out.trans (hst.1 hp))
        rw [hp] at HN
        clear hst hp
        go_wp2_with fail
        refine HN.out.mono ?_
        rintro e w1 ⟨rfl, hb1⟩
        go_wp2
        go_roundw
        case rel => exact ⟨k + 1, by omega, by go_num, hb.trans (hb1.mono hb.size), HE.out⟩
        case measure => simp [intOf]; omega
      · have HE := Lib.hid (hno.out.trans (hst.2 hp))
        rw [hp] at HN
        clear hst hp
        go_wp2_with fail
        refine HN.out.mono ?_
        rintro e w1 ⟨rfl, hb1⟩
        go_wp2
        go_ret
        exact ⟨ret_int HE.out.symm, hb.trans (hb1.mono hb.size)⟩
    · have HE := Lib.hid (hno.out.trans (idxFrom_end p l k (by omega)))
      go_wp2
      go_ret
      exact ⟨ret_int HE.out.symm, hb⟩

set_option maxHeartbeats 400000 in
theorem clsContainsFunc (l : List ClassSig) (v : Value) (F : Nat → Prop) (w : World) (hv : Sl w F ClassSig.d l v) (m : FuncId) (cap : Array Value) (p : ClassSig → Bool)
    (eg : Enters Tryd.prog m) (hc : ∀ i (h : i < l.length) cs w1, Below w.heap.size w w1 → Rp w1 F (ClassSig.d l[i]) cs → Calls Tryd.prog m (#[.agg cs.toArray] ++ cap) w1 fun e w' => e = .returned (.bool (p l[i])) ∧ Below w1.heap.size w1 w') :
    Calls Tryd.prog 37 #[v, .func (.func m) #[] cap] w fun e w' => e = .returned (.bool (l.any p)) ∧ Below w.heap.size w w' := by
  have HN := Lib.hid (clsIndexFunc l v F w hv m cap p eg hc)
  clear hc hv
  have HE := Lib.hid (idxInt_any p l)
  clear eg
  go_enter Tryd.func37, Tryd.ntmps37
  go_wp2_with fail
  refine HN.out.mono ?_
  rintro e w1 ⟨rfl, hb1⟩
  go_wp2
  go_ret
  exact ⟨ret_bool (by rw [HE.out]), hb1⟩

set_option maxHeartbeats 400000 in
theorem instIndexFunc (l : List InstSig) (v : Value) (F : Nat → Prop) (w : World) (hv : Sl w F InstSig.d l v) (m : FuncId) (cap : Array Value) (p : InstSig → Bool)
    (eg : Enters Tryd.prog m) (hc : ∀ i (h : i < l.length) cs w1, Below w.heap.size w w1 → Rp w1 F (InstSig.d l[i]) cs → Calls Tryd.prog m (#[.agg cs.toArray] ++ cap) w1 fun e w' => e = .returned (.bool (p l[i])) ∧ Below w1.heap.size w1 w') :
    Calls Tryd.prog 45 #[v, .func (.func m) #[] cap] w fun e w' => e = .returned (.int .i64 (idxInt p l)) ∧ Below w.heap.size w w' := by
  obtain ⟨A, c, rfl, hlc, hcm, _⟩ := hv.form
  have hl : l.length ≤ 9223372036854775807 := by unfold maxLen at hcm; omega
  have HC := Lib.hid hc
  clear hc
  unfold Enters at eg
  go_enter Tryd.func45, Tryd.ntmps45
  go_wp2
  go_loopw [5, 8] (fun _ i wr => ∃ k : Nat, k ≤ l.length ∧ i = .int .i64 k ∧ Below w.heap.size w wr ∧ Hid (idxInt p l = idxFrom p (l.drop k) k)) (fun _ i _ => l.length - (intOf i).toNat)
  case atStart => exact ⟨0, Nat.zero_le _, rfl, Below.refl _ _, rfl⟩
  case round =>
    obtain ⟨k, hk, rfl, hb, hno⟩ := hrel
    by_cases hlt : k < l.length
    · have hv' := hv.later hb
      obtain ⟨g, off, v1, v2, rfl, hF, c0, c1, c2, c3, c4, c5, s0, s1, s2⟩ := InstSig.get hv' hlt
      have HN := Lib.hid (HC.out k hlt [.string l[k].cls, .int .i64 l[k].head.kind, .string l[k].head.name, .int .i64 l[k].head.var, v1, v2] _ hb (InstSig.rp.2 ⟨_, _, rfl, s0, s1, s2⟩))
      have hst := idxFrom_step p l k hlt
      cases hp : p l[k]
      · have HE := Lib.hid (hno.out.trans (hst.1 hp))
        rw [hp] at HN
        clear hst hp
        go_wp2_with fail
        refine HN.out.mono ?_
        rintro e w1 ⟨rfl, hb1⟩
        go_wp2
        go_roundw
        case rel => exact ⟨k + 1, by omega, by go_num, hb.trans (hb1.mono hb.size), HE.out⟩
        case measure => simp [intOf]; omega
      · have HE := Lib.hid (hno.out.trans (hst.2 hp))
        rw [hp] at HN
        clear hst hp
        go_wp2_with fail
        refine HN.out.mono ?_
        rintro e w1 ⟨rfl, hb1⟩
        go_wp2
        go_ret
        exact ⟨ret_int HE.out.symm, hb.trans (hb1.mono hb.size)⟩
    · have HE := Lib.hid (hno.out.trans (idxFrom_end p l k (by omega)))
      go_wp2
      go_ret
      exact ⟨ret_int HE.out.symm, hb⟩

set_option maxHeartbeats 400000 in
theorem instContainsFunc (l : List InstSig) (v : Value) (F : Nat → Prop) (w : World) (hv : Sl w F InstSig.d l v) (m : FuncId) (cap : Array Value) (p : InstSig → Bool)
    (eg : Enters Tryd.prog m) (hc : ∀ i (h : i < l.length) cs w1, Below w.heap.size w w1 → Rp w1 F (InstSig.d l[i]) cs → Calls Tryd.prog m (#[.agg cs.toArray] ++ cap) w1 fun e w' => e = .returned (.bool (p l[i])) ∧ Below w1.heap.size w1 w') :
    Calls Tryd.prog 30 #[v, .func (.func m) #[] cap] w fun e w' => e = .returned (.bool (l.any p)) ∧ Below w.heap.size w w' := by
  have HN := Lib.hid (instIndexFunc l v F w hv m cap p eg hc)
  clear hc hv
  have HE := Lib.hid (idxInt_any p l)
  clear eg
  go_enter Tryd.func30, Tryd.ntmps30
  go_wp2_with fail
  refine HN.out.mono ?_
  rintro e w1 ⟨rfl, hb1⟩
  go_wp2
  go_ret
  exact ⟨ret_bool (by rw [HE.out]), hb1⟩

set_option maxHeartbeats 400000 in
theorem predIndexFunc (l : List Pred) (v : Value) (F : Nat → Prop) (w : World) (hv : Sl w F Pred.d l v) (m : FuncId) (cap : Array Value) (p : Pred → Bool)
    (eg : Enters Tryd.prog m) (hc : ∀ i (h : i < l.length) cs w1, Below w.heap.size w w1 → Rp w1 F (Pred.d l[i]) cs → Calls Tryd.prog m (#[.agg cs.toArray] ++ cap) w1 fun e w' => e = .returned (.bool (p l[i])) ∧ Below w1.heap.size w1 w') :
    Calls Tryd.prog 24 #[v, .func (.func m) #[] cap] w fun e w' => e = .returned (.int .i64 (idxInt p l)) ∧ Below w.heap.size w w' := by
  obtain ⟨A, c, rfl, hlc, hcm, _⟩ := hv.form
  have hl : l.length ≤ 9223372036854775807 := by unfold maxLen at hcm; omega
  have HC := Lib.hid hc
  clear hc
  unfold Enters at eg
  go_enter Tryd.func24, Tryd.ntmps24
  go_wp2
  go_loopw [5, 8] (fun _ i wr => ∃ k : Nat, k ≤ l.length ∧ i = .int .i64 k ∧ Below w.heap.size w wr ∧ Hid (idxInt p l = idxFrom p (l.drop k) k)) (fun _ i _ => l.length - (intOf i).toNat)
  case atStart => exact ⟨0, Nat.zero_le _, rfl, Below.refl _ _, rfl⟩
  case round =>
    obtain ⟨k, hk, rfl, hb, hno⟩ := hrel
    by_cases hlt : k < l.length
    · have hv' := hv.later hb
      obtain ⟨g, off, v1, rfl, hF, c0, c1, c2, c3, c4, s0, s1⟩ := Pred.get hv' hlt
      have HN := Lib.hid (HC.out k hlt [.string l[k].cls, .int .i64 l[k].ty.kind, .string l[k].ty.name, .int .i64 l[k].ty.var, v1] _ hb (Pred.rp.2 ⟨_, rfl, s0, s1⟩))
      have hst := idxFrom_step p l k hlt
      cases hp : p l[k]
      · have HE := Lib.hid (hno.out.trans (hst.1 hp))
        rw [hp] at HN
        clear hst hp
        go_wp2_with fail
        refine HN.out.mono ?_
        rintro e w1 ⟨rfl, hb1⟩
        go_wp2
        go_roundw
        case rel => exact ⟨k + 1, by omega, by go_num, hb.trans (hb1.mono hb.size), HE.out⟩
        case measure => simp [intOf]; omega
      · have HE := Lib.hid (hno.out.trans (hst.2 hp))
        rw [hp] at HN
        clear hst hp
        go_wp2_with fail
        refine HN.out.mono ?_
        rintro e w1 ⟨rfl, hb1⟩
        go_wp2
        go_ret
        exact ⟨ret_int HE.out.symm, hb.trans (hb1.mono hb.size)⟩
    · have HE := Lib.hid (hno.out.trans (idxFrom_end p l k (by omega)))
      go_wp2
      go_ret
      exact ⟨ret_int HE.out.symm, hb⟩

set_option maxHeartbeats 400000 in
theorem predContainsFunc (l : List Pred) (v : Value) (F : Nat → Prop) (w : World) (hv : Sl w F Pred.d l v) (m : FuncId) (cap : Array Value) (p : Pred → Bool)
    (eg : Enters Tryd.prog m) (hc : ∀ i (h : i < l.length) cs w1, Below w.heap.size w w1 → Rp w1 F (Pred.d l[i]) cs → Calls Tryd.prog m (#[.agg cs.toArray] ++ cap) w1 fun e w' => e = .returned (.bool (p l[i])) ∧ Below w1.heap.size w1 w') :
    Calls Tryd.prog 16 #[v, .func (.func m) #[] cap] w fun e w' => e = .returned (.bool (l.any p)) ∧ Below w.heap.size w w' := by
  have HN := Lib.hid (predIndexFunc l v F w hv m cap p eg hc)
  clear hc hv
  have HE := Lib.hid (idxInt_any p l)
  clear eg
  go_enter Tryd.func16, Tryd.ntmps16
  go_wp2_with fail
  refine HN.out.mono ?_
  rintro e w1 ⟨rfl, hb1⟩
  go_wp2
  go_ret
  exact ⟨ret_bool (by rw [HE.out]), hb1⟩

set_option maxHeartbeats 400000 in
theorem check_clo1 (x : ClassSig) (n : ByteArray) (F : Nat → Prop) (W : World) (b : Nat) (cs : List Value) (h : W.cell? ⟨b, 0, none⟩ = some (.string n)) (hx : Rp W F x.d cs) :
    Calls Tryd.prog 38 (#[.agg cs.toArray] ++ #[.pointer (some ⟨b, 0, none⟩)]) W fun e w' => e = .returned (.bool (decide (x.name = n))) ∧ Below W.heap.size W w' := by
  obtain ⟨v1, v2, rfl, _⟩ := ClassSig.rp.1 hx
  have hbl := block_lt_of_cell h
  clear hx
  change Calls Tryd.prog 38 #[.agg #[.string x.name, v1, v2], .pointer (some ⟨b, 0, none⟩)] W _
  by_cases he : x.name = n
  · have e := str_yes he
    have HE := Lib.hid (decide_eq_true he)
    clear he
    go_enter Tryd.func38, Tryd.ntmps38
    go_wp2_with fail
    go_ret
    exact ⟨ret_bool HE.out.symm, (Below.refl _ _).alloc (Nat.le_refl _) _⟩
  · have e := str_no he
    have HE := Lib.hid (decide_eq_false he)
    clear he
    go_enter Tryd.func38, Tryd.ntmps38
    go_wp2_with fail
    go_ret
    exact ⟨ret_bool HE.out.symm, (Below.refl _ _).alloc (Nat.le_refl _) _⟩
set_option maxHeartbeats 400000 in
theorem check_clo2 (done : List ByteArray) (s : ByteArray) (v : Value) (F : Nat → Prop) (W : World) (b : Nat) (h : W.cell? ⟨b, 0, none⟩ = some v) (hd : Sl W F dStr done v) :
    Calls Tryd.prog 41 (#[.string s] ++ #[.pointer (some ⟨b, 0, none⟩)]) W fun e w' => e = .returned (.bool (!(hasN done s))) ∧ w' = W := by
  change Calls Tryd.prog 41 #[.string s, .pointer (some ⟨b, 0, none⟩)] W _
  have HC := Lib.hid (strContains done s v F W hd)
  clear hd
  go_enter Tryd.func41, Tryd.ntmps41
  go_wp2_with fail
  with_reducible refine HC.out.mono ?_
  rintro e w1 ⟨rfl, rfl⟩
  go_wp2_with fail
  go_ret
  exact ⟨rfl, rfl⟩
set_option maxHeartbeats 400000 in
theorem headed_clo (x : Ty) (n : Int) (F : Nat → Prop) (W : World) (b : Nat) (cs : List Value) (h : W.cell? ⟨b, 2, none⟩ = some (.int .i64 n)) (hx : Rp W F (tyD x) cs) :
    Calls Tryd.prog 43 (#[.agg cs.toArray] ++ #[.pointer (some ⟨b, 0, none⟩)]) W fun e w' => e = .returned (.bool (decide (x.var = n))) ∧ Below W.heap.size W w' := by
  obtain ⟨v, rfl, _⟩ := tyD.rp.1 hx
  have hbl := block_lt_of_cell h
  clear hx
  unfold Ty.cells
  change Calls Tryd.prog 43 #[.agg #[.int .i64 x.kind, .string x.name, .int .i64 x.var, v], .pointer (some ⟨b, 0, none⟩)] W _
  have HE : Hid ((x.var == n) = decide (x.var = n)) := by
    show _ = _
    by_cases e : x.var = n
    · rw [decide_eq_true e]; exact beq_iff_eq.2 e
    · rw [decide_eq_false e]; exact beq_eq_false_iff_ne.2 e
  go_enter Tryd.func43, Tryd.ntmps43
  go_wp2_with fail
  go_ret
  exact ⟨ret_bool HE.out, (Below.refl _ _).alloc (Nat.le_refl _) _⟩
set_option maxHeartbeats 400000 in
theorem insts_clo (x : InstSig) (n m : ByteArray) (F : Nat → Prop) (W : World) (b : Nat) (cs : List Value) (h : W.cell? ⟨b, 0, none⟩ = some (.string n)) (h2 : W.cell? ⟨b, 2, none⟩ = some (.string m)) (hx : Rp W F x.d cs) :
    Calls Tryd.prog 31 (#[.agg cs.toArray] ++ #[.pointer (some ⟨b, 0, none⟩)]) W fun e w' => e = .returned (.bool (decide (x.cls = n) && decide (x.head.name = m))) ∧ Below W.heap.size W w' := by
  obtain ⟨v1, v2, rfl, _⟩ := InstSig.rp.1 hx
  have hbl := block_lt_of_cell h
  clear hx
  change Calls Tryd.prog 31 #[.agg #[.string x.cls, .int .i64 x.head.kind, .string x.head.name, .int .i64 x.head.var, v1, v2], .pointer (some ⟨b, 0, none⟩)] W _
  by_cases he : x.cls = n
  · have e := str_yes he
    have HE := Lib.hid (decide_eq_true he)
    clear he
    by_cases hm : x.head.name = m
    · have e2 := str_yes hm
      have HM := Lib.hid (decide_eq_true hm)
      clear hm
      go_enter Tryd.func31, Tryd.ntmps31
      go_wp2_with fail
      go_ret
      exact ⟨ret_bool (by rw [HE.out, HM.out]; rfl), (Below.refl _ _).alloc (Nat.le_refl _) _⟩
    · have e2 := str_no hm
      have HM := Lib.hid (decide_eq_false hm)
      clear hm
      go_enter Tryd.func31, Tryd.ntmps31
      go_wp2_with fail
      go_ret
      exact ⟨ret_bool (by rw [HE.out, HM.out]; rfl), (Below.refl _ _).alloc (Nat.le_refl _) _⟩
  · have e := str_no he
    have HE := Lib.hid (decide_eq_false he)
    clear he
    go_enter Tryd.func31, Tryd.ntmps31
    go_wp2_with fail
    go_ret
    exact ⟨ret_bool (by rw [HE.out]; rfl), (Below.refl _ _).alloc (Nat.le_refl _) _⟩
end Go.Proofs.YtdljlpogljjldaaDoor
