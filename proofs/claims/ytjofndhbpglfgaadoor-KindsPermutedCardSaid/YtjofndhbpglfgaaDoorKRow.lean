/- KindsPermuted: rowed (is a row somewhere an argument of a constructor?). -/
import Derived.Test.YtjofndhbpglfgaaDoorKPerm
namespace Go.Proofs.YtjofndhbpglfgaaDoor
open Go.RowKit Go.Shelf

set_option maxHeartbeats 400000 in
theorem conSigIndexFunc (l : List ConSig) (v : Value) (F : Nat → Prop) (w : World) (hv : Sl w F ConSig.d l v) (m : FuncId) (cap : Array Value) (p : ConSig → Bool)
    (eg : Enters Tryd.prog m) (hc : ∀ i (h : i < l.length) cs w1, Below w.heap.size w w1 → Rp w1 F (ConSig.d l[i]) cs → Calls Tryd.prog m (#[.agg cs.toArray] ++ cap) w1 fun e w' => e = .returned (.bool (p l[i])) ∧ Below w1.heap.size w1 w') :
    Calls Tryd.prog 72 #[v, .func (.func m) #[] cap] w fun e w' => e = .returned (.int .i64 (idxInt p l)) ∧ Below w.heap.size w w' := by
  obtain ⟨A, c, rfl, hlc, hcm, _⟩ := hv.form
  have hl : l.length ≤ 9223372036854775807 := by unfold maxLen at hcm; omega
  have HC := Lib.hid hc
  clear hc
  unfold Enters at eg
  go_enter Tryd.func72, Tryd.ntmps72
  go_wp2
  go_loopw [5, 8] (fun _ i wr => ∃ k : Nat, k ≤ l.length ∧ i = .int .i64 k ∧ Below w.heap.size w wr ∧ Hid (idxInt p l = idxFrom p (l.drop k) k)) (fun _ i _ => l.length - (intOf i).toNat)
  case atStart => exact ⟨0, Nat.zero_le _, rfl, Below.refl _ _, rfl⟩
  case round =>
    obtain ⟨k, hk, rfl, hb, hno⟩ := hrel
    by_cases hlt : k < l.length
    · have hv' := hv.later hb
      obtain ⟨g, off, v1, rfl, hF, c0, c1, s0, s1⟩ := ConSig.get hv' hlt
      have HN := Lib.hid (HC.out k hlt [.string l[k].name, v1] _ hb (ConSig.rp.2 ⟨_, rfl, s0, s1⟩))
      have hst := idxFrom_step p l k hlt
      cases hp : p l[k]
      · have HE := Lib.hid (hno.out.trans (hst.1 hp))
        rw [hp] at HN
        clear hst hp
        go_wp2_with fail
        refine HN.out.mono ?_
        rintro e w1 ⟨rfl, hb1⟩
        go_wp2
        go_roundw
        case rel => exact ⟨k + 1, by omega, by go_num, hb.trans (hb1.mono hb.size), HE.out⟩
        case measure => simp [intOf]; omega
      · have HE := Lib.hid (hno.out.trans (hst.2 hp))
        rw [hp] at HN
        clear hst hp
        go_wp2_with fail
        refine HN.out.mono ?_
        rintro e w1 ⟨rfl, hb1⟩
        go_wp2
        go_ret
        exact ⟨ret_int HE.out.symm, hb.trans (hb1.mono hb.size)⟩
    · have HE := Lib.hid (hno.out.trans (idxFrom_end p l k (by omega)))
      go_wp2
      go_ret
      exact ⟨ret_int HE.out.symm, hb⟩

set_option maxHeartbeats 400000 in
theorem conSigContainsFunc (l : List ConSig) (v : Value) (F : Nat → Prop) (w : World) (hv : Sl w F ConSig.d l v) (m : FuncId) (cap : Array Value) (p : ConSig → Bool)
    (eg : Enters Tryd.prog m) (hc : ∀ i (h : i < l.length) cs w1, Below w.heap.size w w1 → Rp w1 F (ConSig.d l[i]) cs → Calls Tryd.prog m (#[.agg cs.toArray] ++ cap) w1 fun e w' => e = .returned (.bool (p l[i])) ∧ Below w1.heap.size w1 w') :
    Calls Tryd.prog 49 #[v, .func (.func m) #[] cap] w fun e w' => e = .returned (.bool (l.any p)) ∧ Below w.heap.size w w' := by
  have HN := Lib.hid (conSigIndexFunc l v F w hv m cap p eg hc)
  clear hc hv
  have HE := Lib.hid (idxInt_any p l)
  clear eg
  go_enter Tryd.func49, Tryd.ntmps49
  go_wp2_with fail
  refine HN.out.mono ?_
  rintro e w1 ⟨rfl, hb1⟩
  go_wp2
  go_ret
  exact ⟨ret_bool (by rw [HE.out]), hb1⟩

set_option maxHeartbeats 400000 in
theorem tyIndexFunc (l : List Ty) (v : Value) (F : Nat → Prop) (w : World) (hv : Sl w F tyD l v) (m : FuncId) (cap : Array Value) (p : Ty → Bool)
    (eg : Enters Tryd.prog m) (hc : ∀ i (h : i < l.length) cs w1, Below w.heap.size w w1 → Rp w1 F (tyD l[i]) cs → Calls Tryd.prog m (#[.agg cs.toArray] ++ cap) w1 fun e w' => e = .returned (.bool (p l[i])) ∧ Below w1.heap.size w1 w') :
    Calls Tryd.prog 73 #[v, .func (.func m) #[] cap] w fun e w' => e = .returned (.int .i64 (idxInt p l)) ∧ Below w.heap.size w w' := by
  obtain ⟨A, c, rfl, hlc, hcm, _⟩ := hv.form
  have hl : l.length ≤ 9223372036854775807 := by unfold maxLen at hcm; omega
  have HC := Lib.hid hc
  clear hc
  unfold Enters at eg
  go_enter Tryd.func73, Tryd.ntmps73
  go_wp2
  go_loopw [5, 8] (fun _ i wr => ∃ k : Nat, k ≤ l.length ∧ i = .int .i64 k ∧ Below w.heap.size w wr ∧ Hid (idxInt p l = idxFrom p (l.drop k) k)) (fun _ i _ => l.length - (intOf i).toNat)
  case atStart => exact ⟨0, Nat.zero_le _, rfl, Below.refl _ _, rfl⟩
  case round =>
    obtain ⟨k, hk, rfl, hb, hno⟩ := hrel
    by_cases hlt : k < l.length
    · have hv' := hv.later hb
      obtain ⟨g, off, v1, rfl, hF, c0, c1, c2, c3, hT⟩ := tyD.get hv' hlt
      have HN := Lib.hid (HC.out k hlt [.int .i64 l[k].kind, .string l[k].name, .int .i64 l[k].var, v1] _ hb (tyD.rp.2 ⟨_, rfl, hT⟩))
      have hst := idxFrom_step p l k hlt
      cases hp : p l[k]
      · have HE := Lib.hid (hno.out.trans (hst.1 hp))
        rw [hp] at HN
        clear hst hp
        go_wp2_with fail
        refine HN.out.mono ?_
        rintro e w1 ⟨rfl, hb1⟩
        go_wp2
        go_roundw
        case rel => exact ⟨k + 1, by omega, by go_num, hb.trans (hb1.mono hb.size), HE.out⟩
        case measure => simp [intOf]; omega
      · have HE := Lib.hid (hno.out.trans (hst.2 hp))
        rw [hp] at HN
        clear hst hp
        go_wp2_with fail
        refine HN.out.mono ?_
        rintro e w1 ⟨rfl, hb1⟩
        go_wp2
        go_ret
        exact ⟨ret_int HE.out.symm, hb.trans (hb1.mono hb.size)⟩
    · have HE := Lib.hid (hno.out.trans (idxFrom_end p l k (by omega)))
      go_wp2
      go_ret
      exact ⟨ret_int HE.out.symm, hb⟩

set_option maxHeartbeats 400000 in
theorem tyContainsFunc (l : List Ty) (v : Value) (F : Nat → Prop) (w : World) (hv : Sl w F tyD l v) (m : FuncId) (cap : Array Value) (p : Ty → Bool)
    (eg : Enters Tryd.prog m) (hc : ∀ i (h : i < l.length) cs w1, Below w.heap.size w w1 → Rp w1 F (tyD l[i]) cs → Calls Tryd.prog m (#[.agg cs.toArray] ++ cap) w1 fun e w' => e = .returned (.bool (p l[i])) ∧ Below w1.heap.size w1 w') :
    Calls Tryd.prog 51 #[v, .func (.func m) #[] cap] w fun e w' => e = .returned (.bool (l.any p)) ∧ Below w.heap.size w w' := by
  have HN := Lib.hid (tyIndexFunc l v F w hv m cap p eg hc)
  clear hc hv
  have HE := Lib.hid (idxInt_any p l)
  clear eg
  go_enter Tryd.func51, Tryd.ntmps51
  go_wp2_with fail
  refine HN.out.mono ?_
  rintro e w1 ⟨rfl, hb1⟩
  go_wp2
  go_ret
  exact ⟨ret_bool (by rw [HE.out]), hb1⟩

theorem rowInPs_any (k : Int) : ∀ l : List Ty, rowInPs k l = l.any (fun a => decide (k = 1) && decide (3 < a.kind) || rowInP a)
  | [] => rfl
  | a :: r => by rw [rowInPs, rowInPs_any k r]; rfl
theorem rowInP_any (t : Ty) : rowInP t = t.args.any (fun a => decide (t.kind = 1) && decide (3 < a.kind) || rowInP a) := by
  cases t with
  | mk k n v l => rw [rowInP, rowInPs_any]; rfl
def RowAt (t : Ty) : Prop := ∀ (W : World) (F : Nat → Prop) (av : Value), TyC W F t av → Calls Tryd.prog 52 #[tyV t av] W fun e w' => e = .returned (.bool (rowInP t)) ∧ Below W.heap.size W w'

set_option maxHeartbeats 400000 in
theorem rowIn_clo (k : Int) (a : Ty) (W : World) (F : Nat → Prop) (b : Nat) (cs : List Value) (hc : W.cell? ⟨b, 0, none⟩ = some (.int .i64 k)) (hx : Rp W F (tyD a) cs) (ih : RowAt a) :
    Calls Tryd.prog 74 (#[.agg cs.toArray] ++ #[.pointer (some ⟨b, 0, none⟩)]) W fun e w' => e = .returned (.bool (decide (k = 1) && decide (3 < a.kind) || rowInP a)) ∧ Below W.heap.size W w' := by
  obtain ⟨av, rfl, hT⟩ := tyD.rp.1 hx
  clear hx
  have hb := block_lt_of_cell hc
  obtain ⟨A, c, rfl, _⟩ := hT.form
  obtain ⟨z, hz⟩ : ∃ z, W.heap.size = z := ⟨_, rfl⟩
  obtain ⟨W1, hW1⟩ : ∃ W1, W.alloc (.cells #[.int .i64 a.kind, .string a.name, .int .i64 a.var, .slice A a.args.length c] 45) = W1 := ⟨_, rfl⟩
  have hb1 : Below W.heap.size W W1 := by rw [← hW1]; exact (Below.refl _ _).alloc (Nat.le_refl _) _
  have hih := ih W1 F _ (hT.later hb1)
  unfold tyV at hih
  have HIh := Lib.hid hih
  have HB1 := Lib.hid hb1
  have HW1 := Lib.hid hW1
  have HZ := Lib.hid hz
  change Calls Tryd.prog 74 #[.agg #[.int .i64 a.kind, .string a.name, .int .i64 a.var, .slice A a.args.length c], .pointer (some ⟨b, 0, none⟩)] W _
  obtain ⟨pb, hpb⟩ : ∃ pb, (decide (k = 1) && decide (3 < a.kind) || rowInP a) = pb := ⟨_, rfl⟩
  rw [hpb]
  have HPb := Lib.hid hpb
  clear hT ih hih hb1 hW1 hz hpb
  by_cases hk : k = 1
  · have hkb : (k == 1) = true := beq_iff_eq.2 hk
    by_cases h3 : 3 < a.kind
    · have HE : Hid (pb = true) := by show _ = _; rw [← HPb.out]; rw [decide_eq_true hk, decide_eq_true h3]; rfl
      clear hk
      go_enter Tryd.func74, Tryd.ntmps74
      go_wp2_with fail
      go_ret
      exact ⟨ret_bool HE.out.symm, (Below.refl _ _).alloc (Nat.le_refl _) _⟩
    · have HE : Hid (pb = rowInP a) := by show _ = _; rw [← HPb.out]; rw [decide_eq_false h3, Bool.and_false, Bool.false_or]
      clear hk
      go_enter Tryd.func74, Tryd.ntmps74
      go_wp2_with fail
      rw [HW1.out]
      with_reducible refine HIh.out.mono ?_
      rintro e w2 ⟨rfl, hb2⟩
      have HB2 := Lib.hid (HB1.out.trans (hb2.mono HB1.out.size))
      clear hb2
      go_wp2_with fail
      go_ret
      exact ⟨ret_bool HE.out.symm, HB2.out⟩
  · have hkb : (k == 1) = false := beq_eq_false_iff_ne.2 hk
    have HE : Hid (pb = rowInP a) := by show _ = _; rw [← HPb.out]; rw [decide_eq_false hk, Bool.false_and, Bool.false_or]
    clear hk
    go_enter Tryd.func74, Tryd.ntmps74
    go_wp2_with fail
    rw [HW1.out]
    with_reducible refine HIh.out.mono ?_
    rintro e w2 ⟨rfl, hb2⟩
    have HB2 := Lib.hid (HB1.out.trans (hb2.mono HB1.out.size))
    clear hb2
    go_wp2_with fail
    go_ret
    exact ⟨ret_bool HE.out.symm, HB2.out⟩

set_option maxHeartbeats 400000 in
theorem rowIn_step (t : Ty) (ih : ∀ a ∈ t.args, RowAt a) : RowAt t := fun W F av hT => by
  obtain ⟨A, c, rfl, _⟩ := hT.form
  obtain ⟨z, hz⟩ : ∃ z, W.heap.size = z := ⟨_, rfl⟩
  obtain ⟨W1, hW1⟩ : ∃ W1, W.alloc (.cells #[.int .i64 t.kind, .string t.name, .int .i64 t.var, .slice A t.args.length c] 45) = W1 := ⟨_, rfl⟩
  have hb1 : Below W.heap.size W W1 := by rw [← hW1]; exact (Below.refl _ _).alloc (Nat.le_refl _) _
  have hbk : Blk W1 z 45 [.int .i64 t.kind, .string t.name, .int .i64 t.var, .slice A t.args.length c] := by rw [← hW1, ← hz]; exact Blk.new W _ [_, _, _, _]
  have eg : Enters Tryd.prog 74 := enters_of Tryd.func74 (by kernel_rfl) rfl
  have HCf := Lib.hid (tyContainsFunc t.args _ F W1 (hT.later hb1).args 74 #[.pointer (some ⟨z, 0, none⟩)] (fun a => decide (t.kind = 1) && decide (3 < a.kind) || rowInP a) eg
    (fun i hi cs w1 hbw hr => rowIn_clo t.kind _ w1 F z cs ((hbk.later hbw).cell (i := 0) rfl) hr (ih _ (List.getElem_mem hi))))
  rw [← rowInP_any] at HCf
  have HB1 := Lib.hid hb1
  have HW1 := Lib.hid hW1
  have HZ := Lib.hid hz
  unfold tyV
  clear hT ih hb1 hW1 hz hbk eg
  go_enter Tryd.func52, Tryd.ntmps52
  go_wp2_with fail
  rw [HW1.out, HZ.out]
  with_reducible refine HCf.out.mono ?_
  rintro e w2 ⟨rfl, hb2⟩
  have HB2 := Lib.hid (HB1.out.trans (hb2.mono HB1.out.size))
  clear hb2
  go_wp2_with fail
  go_ret
  exact ⟨rfl, HB2.out⟩
theorem rowIn_any (t : Ty) : RowAt t := by
  suffices h : ∀ (m : Nat) (t : Ty), SizeOf.sizeOf t ≤ m → RowAt t from h _ t (Nat.le_refl _)
  intro m
  induction m with
  | zero => intro t ht; cases t; simp at ht
  | succ m ihm => exact fun t ht => rowIn_step t (fun a ha => ihm a (by have := arg_size ha; omega))

set_option maxHeartbeats 400000 in
theorem rowed_clo (c : ConSig) (W : World) (F : Nat → Prop) (cs : List Value) (hx : Rp W F c.d cs) :
    Calls Tryd.prog 50 (#[.agg cs.toArray] ++ #[]) W fun e w' => e = .returned (.bool (c.args.any rowInP)) ∧ Below W.heap.size W w' := by
  obtain ⟨v, rfl, hn, hs⟩ := ConSig.rp.1 hx
  obtain ⟨A, cc, rfl, _⟩ := hs.form
  clear hx
  change Calls Tryd.prog 50 #[.agg #[.string c.name, .slice A c.args.length cc]] W _
  obtain ⟨W1, hW1⟩ : ∃ W1, W.alloc (.cells #[.string c.name, .slice A c.args.length cc] 80) = W1 := ⟨_, rfl⟩
  have hb1 : Below W.heap.size W W1 := by rw [← hW1]; exact (Below.refl _ _).alloc (Nat.le_refl _) _
  have eg : Enters Tryd.prog 52 := enters_of Tryd.func52 (by kernel_rfl) rfl
  have HCf := Lib.hid (tyContainsFunc c.args _ F W1 (hs.later hb1) 52 #[] rowInP eg
    (fun i hi cs w1 hbw hr => by
      obtain ⟨av, rfl, hT⟩ := tyD.rp.1 hr
      exact rowIn_any _ w1 F av hT))
  have HB1 := Lib.hid hb1
  have HW1 := Lib.hid hW1
  clear hs hb1 hW1 eg
  go_enter Tryd.func50, Tryd.ntmps50
  go_wp2_with fail
  rw [HW1.out]
  with_reducible refine HCf.out.mono ?_
  rintro e w2 ⟨rfl, hb2⟩
  have HB2 := Lib.hid (HB1.out.trans (hb2.mono HB1.out.size))
  clear hb2
  go_wp2_with fail
  go_ret
  exact ⟨rfl, HB2.out⟩

set_option maxHeartbeats 400000 in
theorem rowed_any (d : DataSig) (W : World) (F : Nat → Prop) (cs : List Value) (hx : Rp W F d.d cs) :
    Calls Tryd.prog 17 (#[.agg cs.toArray] ++ #[]) W fun e w' => e = .returned (.bool (rowedP d)) ∧ Below W.heap.size W w' := by
  obtain ⟨v, rfl, hn, hp, hs⟩ := DataSig.rp.1 hx
  obtain ⟨A, cc, rfl, _⟩ := hs.form
  clear hx
  change Calls Tryd.prog 17 #[.agg #[.string d.name, .int .i64 d.params, .slice A d.cons.length cc]] W _
  obtain ⟨W1, hW1⟩ : ∃ W1, W.alloc (.cells #[.string d.name, .int .i64 d.params, .slice A d.cons.length cc] 32) = W1 := ⟨_, rfl⟩
  have hb1 : Below W.heap.size W W1 := by rw [← hW1]; exact (Below.refl _ _).alloc (Nat.le_refl _) _
  have eg : Enters Tryd.prog 50 := enters_of Tryd.func50 (by kernel_rfl) rfl
  have HCf := Lib.hid (conSigContainsFunc d.cons _ F W1 (hs.later hb1) 50 #[] (fun c => c.args.any rowInP) eg
    (fun i hi cs w1 hbw hr => rowed_clo _ w1 F cs hr))
  change Hid (Calls _ _ _ _ fun e w' => e = .returned (.bool (rowedP d)) ∧ _) at HCf
  have HB1 := Lib.hid hb1
  have HW1 := Lib.hid hW1
  clear hs hb1 hW1 eg
  go_enter Tryd.func17, Tryd.ntmps17
  go_wp2_with fail
  rw [HW1.out]
  with_reducible refine HCf.out.mono ?_
  rintro e w2 ⟨rfl, hb2⟩
  have HB2 := Lib.hid (HB1.out.trans (hb2.mono HB1.out.size))
  clear hb2
  go_wp2_with fail
  go_ret
  exact ⟨rfl, HB2.out⟩
theorem anyRowed (l : List DataSig) (v : Value) (F : Nat → Prop) (w : World) (hv : Sl w F DataSig.d l v) :
    Calls Tryd.prog 16 #[v, .func (.func 17) #[] #[]] w fun e w' => e = .returned (.bool (l.any rowedP)) ∧ Below w.heap.size w w' :=
  dataSigContainsFunc l v F w hv 17 #[] rowedP (enters_of Tryd.func17 (by kernel_rfl) rfl) (fun i hi cs w1 hbw hr => rowed_any _ w1 F cs hr)
end Go.Proofs.YtjofndhbpglfgaaDoor
