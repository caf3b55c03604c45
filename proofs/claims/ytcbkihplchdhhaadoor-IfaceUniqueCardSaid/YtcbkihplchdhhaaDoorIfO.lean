/- iface.sorted, the comparisons, iface.ordered. -/
import Derived.Test.YtcbkihplchdhhaaDoorIfA
import Derived.Test.YtcbkihplchdhhaaDoorTill
import Derived.Deep.RegionHeld3
import Derived.Deep.CutRange
import Derived.Deep.DeepCutAuto
import Derived.Lib.Strings
import Derived.Lib.Slices
import Derived.Lib.Walk
import Derived.Lib.Bytealg
import Derived.Laws.Cover1
namespace Go.Proofs.YtcbkihplchdhhaaDoor
open Go.RowKit Go.Shelf

namespace If
set_option maxHeartbeats 1000000 in
set_option maxRecDepth 100000 in
theorem bcmp_any (a b : ByteArray) (w : World) :
    Calls Tryd.prog 91 #[.string a, .string b] w fun e w' => e = .returned (.int .i64 (Go.Lib.compareBytes a.data.toList b.data.toList)) ∧ w = w' := by
  go_enter Tryd.func91, Tryd.ntmps91
  go_wp2
  rw [run_callFunc_extern Tryd.func93 (by kernel_rfl) (by kernel_rfl) (by kernel_rfl) (e := Extern.BytealgCompare.compare) (by kernel_rfl), Go.Lib.run_compareString]
  simp only [Result.andThen]
  rw [Oper.upon_value]
  go_wp2
  go_ret
  exact ⟨rfl, rfl⟩
def cmpB (a b : ByteArray) : Int := Go.Lib.compareBytes a.data.toList b.data.toList
set_option maxHeartbeats 1000000 in
theorem scmp_any (a b : ByteArray) (w : World) :
    Calls Tryd.prog 67 #[.string a, .string b] w fun e w' => e = .returned (.int .i64 (cmpB a b)) ∧ w = w' := by
  go_enter Tryd.func67, Tryd.ntmps67
  go_wp2_with (go_at_call 91; refine (bcmp_any _ _ _).mono ?_; rintro e w' ⟨rfl, rfl⟩)
  go_ret
  exact ⟨rfl, rfl⟩
theorem nan_any (a : ByteArray) (w : World) : Calls Tryd.prog 92 #[.string a] w fun e w' => e = .returned (.bool false) ∧ w = w' := by
  go_enter Tryd.func92, Tryd.ntmps92
  go_wp2
  go_ret
  exact ⟨by simp, rfl⟩
def cmpS (a b : ByteArray) : Int := if Op.bytesLess a.toList b.toList = true then -1 else if (a.toList == b.toList) = true then 0 else 1
set_option maxHeartbeats 1000000 in
theorem ccmp_any (a b : ByteArray) (w : World) : Calls Tryd.prog 70 #[.string a, .string b] w fun e w' => e = .returned (.int .i64 (cmpS a b)) ∧ w = w' := by
  unfold cmpS
  cases h1 : Op.bytesLess a.toList b.toList
  · cases h2 : (a.toList == b.toList)
    · go_enter Tryd.func70, Tryd.ntmps70
      go_wp2_with (go_at_call 92; refine (nan_any _ _).mono ?_; rintro e w' ⟨rfl, rfl⟩)
      go_ret
      exact ⟨rfl, rfl⟩
    · go_enter Tryd.func70, Tryd.ntmps70
      go_wp2_with (go_at_call 92; refine (nan_any _ _).mono ?_; rintro e w' ⟨rfl, rfl⟩)
      go_ret
      exact ⟨rfl, rfl⟩
  · go_enter Tryd.func70, Tryd.ntmps70
    go_wp2_with (go_at_call 92; refine (nan_any _ _).mono ?_; rintro e w' ⟨rfl, rfl⟩)
    go_ret
    exact ⟨rfl, rfl⟩
/-- Strictly increasing in the order c. -/
def incr {α : Type} (c : α → α → Int) : List α → Bool
  | a :: b :: l => if 0 ≤ c a b then false else incr c (b :: l)
  | _ => true
theorem incr_step {α : Type} (c : α → α → Int) (l : List α) (k : Nat) (h : k + 1 < l.length) : incr c (l.drop k) = if 0 ≤ c (l[k]'(by omega)) l[k + 1] then false else incr c (l.drop (k + 1)) := by
  rw [List.drop_eq_getElem_cons (by omega : k < l.length), List.drop_eq_getElem_cons h, incr]
theorem incr_end {α : Type} (c : α → α → Int) (l : List α) (k : Nat) (h : l.length ≤ k + 1) : incr c (l.drop k) = true := by
  have h1 : (l.drop k).length ≤ 1 := by rw [List.length_drop]; omega
  generalize l.drop k = m at h1
  match m with
  | [] => rfl
  | [_] => rfl
  | _ :: _ :: _ => simp at h1
set_option maxRecDepth 100000 in
set_option maxHeartbeats 8000000 in
theorem sortedStr_any (l : List ByteArray) (v : Value) (F : Nat → Prop) (w : World) (hv : Sl w F dStr l v) (m : FuncId) (c : ByteArray → ByteArray → Int) (eg : Enters Tryd.prog m)
    (hc : ∀ i j (hi : i < l.length) (hj : j < l.length) cs ds w1, Below w.heap.size w w1 → Rp w1 F (dStr l[i]) cs → Rp w1 F (dStr l[j]) ds → Calls Tryd.prog m #[.string l[i], .string l[j]] w1 fun e w' => e = .returned (.int .i64 (c l[i] l[j])) ∧ Below w1.heap.size w1 w') :
    Calls Tryd.prog 66 #[v, .func (.func m) #[] #[]] w fun e w' => e = .returned (.bool (incr c l)) ∧ Below w.heap.size w w' := by
  obtain ⟨A, c0, rfl, hlc, hcm, _⟩ := hv.form
  have hl : l.length ≤ 9223372036854775807 := by unfold maxLen at hcm; omega
  have HC := Lib.hid hc
  have HV := Lib.hid hv
  clear hc hv hlc hcm
  unfold Enters at eg
  go_enter Tryd.func66, Tryd.ntmps66
  go_wp2_with fail
  go_loopw [5] (fun i wr => ∃ k : Nat, .int .i64 ((k + 1 : Nat) : Int) = i ∧ k ≤ l.length ∧ Below w.heap.size w wr ∧ Hid (incr c l = incr c (l.drop k))) (fun i _ => l.length + 1 - (intOf i).toNat)
  case atStart => exact ⟨0, rfl, Nat.zero_le _, Below.refl _ _, rfl⟩
  case round =>
    obtain ⟨j, rfl, hjl, hb, hno⟩ := hrel
    by_cases hlt : j + 1 < l.length
    · have hv' := HV.out.later hb
      obtain ⟨ga, oa, hA, hga, a0, sa0⟩ := dStr.get hv' (show j < l.length by omega)
      obtain ⟨gb, ob, hB, hgb, b0, sb0⟩ := dStr.get hv' hlt
      have hst := incr_step c l j hlt
      have HCC := HC.out j (j + 1) (by omega) hlt
      obtain ⟨x, hx⟩ : ∃ x, l[j] = x := ⟨_, rfl⟩
      obtain ⟨y, hy⟩ : ∃ y, l[j + 1] = y := ⟨_, rfl⟩
      rw [hx] at a0 sa0 hst
      rw [hy] at b0 sb0 hst
      rw [hx, hy] at HCC
      rw [hA] at hB
      cases hB
      subst hA
      have hRa : Rp wr F (dStr x) [.string x] := rp_str.2 ⟨rfl, sa0⟩
      have hRb : Rp wr F (dStr y) [.string y] := rp_str.2 ⟨rfl, sb0⟩
      have HCl : Hid (∀ X, Below wr.heap.size wr X → Calls Tryd.prog m #[.string x, .string y] X fun e w' => e = .returned (.int .i64 (c x y)) ∧ Below X.heap.size X w') := fun X hX => HCC [.string x] [.string y] X (hb.trans (hX.mono hb.size)) (hRa.later hX) (hRb.later hX)
      have hQ : Hid (∀ X, Below wr.heap.size wr X → (X.cell? ⟨ga, oa + j, none⟩ = some (.string x) ∧ X.cell? ⟨ga, oa + (j + 1), none⟩ = some (.string y))) := fun X hX => ⟨(hX.cell (block_lt_of_cell a0)).trans a0, (hX.cell (block_lt_of_cell b0)).trans b0⟩
      have k0 : (0 : Int) ≤ (j : Int) := by omega
      have k1 : (j : Int) + 1 < (l.length : Int) := by omega
      have k2 : (j : Int) < (l.length : Int) := by omega
      have k3 : IntKind.i64.wrap (j : Int) = (j : Int) := by rw [IntKind.wrap_i64]; omega
      have k4 : ((j : Int) + 1).toNat = j + 1 := by omega
      have k5 : (0 : Int) ≤ (j : Int) + 1 := by omega
      have HB := Lib.hid hb
      have hq := (hQ.out wr (Below.refl _ _))
      clear HCC hRa hRb hx hy a0 b0 sa0 sb0 hga hgb hv' hb
      have HSt := Lib.hid hst
      clear hst hq
      go_upto_region 4 with (fail)
      refine wp_region_noPanic ?_
      refine wp_region_till [] (fun X => X.cell? ⟨ga, oa + j, none⟩ = some (.string x) ∧ X.cell? ⟨ga, oa + (j + 1), none⟩ = some (.string y)) (by kernel_rfl) ?_ (fun hE => ?_)
      · first | exact hQ.out _ hbQ | exact hQ.out _ (by repeat (first | (with_reducible exact Below.refl _ _) | (with_reducible assumption) | (with_reducible refine Below.drew ?_) | (with_reducible refine Below.drewN ?_ _)))
      have hS := hE (by kernel_rfl)
      refine wpAnyT_pure (i := 0) (oi := { dst := some 12, op := Op.move (Operand.tmp 1), type := 130, pos := "iface.go:100", after := #[], guard := none }) (v := ?v4_0_1) rfl (by kernel_rfl) (fun _ _ _ h => h) (Or.inl ⟨by rfl, ?y4_0_1⟩) (fun _ => hS) ?_
      case y4_0_1 => (intro w hSw; go_simp; try with_reducible rfl)
      try simp only [Act.put, List.setIfInBounds_toArray, List.set_cons_zero, List.set_cons_succ]
      refine wpAnyT_pure (i := 1) (oi := { dst := some 13, op := Op.move (Operand.tmp 0), type := 25, pos := "iface.go:100", after := #[], guard := none }) (v := ?v4_1_2) rfl (by kernel_rfl) (fun _ _ _ h => h) (Or.inl ⟨by rfl, ?y4_1_2⟩) (fun _ => hS) ?_
      case y4_1_2 => (intro w hSw; go_simp; try with_reducible rfl)
      try simp only [Act.put, List.setIfInBounds_toArray, List.set_cons_zero, List.set_cons_succ]
      refine wpAnyT_pure (i := 2) (oi := { dst := some 14, op := Op.move (Operand.tmp 5), type := 3, pos := "iface.go:100", after := #[], guard := none }) (v := ?v4_2_3) rfl (by kernel_rfl) (fun _ _ _ h => h) (Or.inl ⟨by rfl, ?y4_2_3⟩) (fun _ => hS) ?_
      case y4_2_3 => (intro w hSw; go_simp; try with_reducible rfl)
      try simp only [Act.put, List.setIfInBounds_toArray, List.set_cons_zero, List.set_cons_succ]
      refine wpAnyT_pure (i := 3) (oi := { dst := some 15, op := Op.binOp BinOp.sub 3 (Operand.tmp 14) (Operand.const (Value.int IntKind.i64 1)) 3, type := 3, pos := "iface.go:100", after := #[⟨2, .data⟩], guard := none }) (v := ?v4_3_4) rfl (by kernel_rfl) (fun _ _ _ h => h) (Or.inl ⟨by rfl, ?y4_3_4⟩) (fun _ => hS) ?_
      case y4_3_4 => (intro w hSw; go_simp; try with_reducible rfl)
      try simp only [Act.put, List.setIfInBounds_toArray, List.set_cons_zero, List.set_cons_succ]
      refine wpAnyT_pure (i := 4) (oi := { dst := some 16, op := Op.indexAddr 25 (Operand.tmp 13) (Operand.tmp 15), type := 0, pos := "iface.go:100", after := #[⟨1, .data⟩, ⟨3, .data⟩], guard := none }) (v := ?v4_4_5) rfl (by kernel_rfl) (fun _ _ _ h => h) (Or.inl ⟨by rfl, ?y4_4_5⟩) (fun _ => hS) ?_
      case y4_4_5 => (intro w hSw; go_simp; try with_reducible rfl)
      try simp only [Act.put, List.setIfInBounds_toArray, List.set_cons_zero, List.set_cons_succ]
      refine wpAnyT_take (i := 5) (oi := { dst := some 17, op := Op.load 9 (Operand.tmp 16), type := 9, pos := "iface.go:100", after := #[⟨4, .data⟩], guard := none }) (v := ?v4_5_6) rfl (by kernel_rfl) (fun _ _ _ h => h) (Or.inl ⟨by rfl, ?y4_5_6⟩) hS ?_
      case y4_5_6 => (intro w hSw; (try dsimp only at hSw); go_simp; try with_reducible rfl)
      try simp only [Act.put, List.setIfInBounds_toArray, List.set_cons_zero, List.set_cons_succ]
      refine wpAnyT_pure (i := 6) (oi := { dst := some 18, op := Op.move (Operand.tmp 0), type := 25, pos := "iface.go:100", after := #[], guard := none }) (v := ?v4_6_7) rfl (by kernel_rfl) (fun _ _ _ h => h) (Or.inl ⟨by rfl, ?y4_6_7⟩) (fun _ => hS) ?_
      case y4_6_7 => (intro w hSw; go_simp; try with_reducible rfl)
      try simp only [Act.put, List.setIfInBounds_toArray, List.set_cons_zero, List.set_cons_succ]
      refine wpAnyT_pure (i := 7) (oi := { dst := some 19, op := Op.move (Operand.tmp 5), type := 3, pos := "iface.go:100", after := #[], guard := none }) (v := ?v4_7_8) rfl (by kernel_rfl) (fun _ _ _ h => h) (Or.inl ⟨by rfl, ?y4_7_8⟩) (fun _ => hS) ?_
      case y4_7_8 => (intro w hSw; go_simp; try with_reducible rfl)
      try simp only [Act.put, List.setIfInBounds_toArray, List.set_cons_zero, List.set_cons_succ]
      refine wpAnyT_pure (i := 8) (oi := { dst := some 20, op := Op.indexAddr 25 (Operand.tmp 18) (Operand.tmp 19), type := 0, pos := "iface.go:100", after := #[⟨6, .data⟩, ⟨7, .data⟩], guard := none }) (v := ?v4_8_9) rfl (by kernel_rfl) (fun _ _ _ h => h) (Or.inl ⟨by rfl, ?y4_8_9⟩) (fun _ => hS) ?_
      case y4_8_9 => (intro w hSw; go_simp; try with_reducible rfl)
      try simp only [Act.put, List.setIfInBounds_toArray, List.set_cons_zero, List.set_cons_succ]
      refine wpAnyT_take (i := 9) (oi := { dst := some 21, op := Op.load 9 (Operand.tmp 20), type := 9, pos := "iface.go:100", after := #[⟨8, .data⟩], guard := none }) (v := ?v4_9_10) rfl (by kernel_rfl) (fun _ _ _ h => h) (Or.inl ⟨by rfl, ?y4_9_10⟩) hS ?_
      case y4_9_10 => (intro w hSw; (try dsimp only at hSw); go_simp; try with_reducible rfl)
      try simp only [Act.put, List.setIfInBounds_toArray, List.set_cons_zero, List.set_cons_succ]
      refine wpAnyT_ready (rs := [10]) (by kernel_rfl) rfl ?_
      refine AllT.cons (o := { dst := some 22, op := Op.call { callee := Callee.value (Operand.tmp 12), args := #[Operand.tmp 17, Operand.tmp 21], argTypes := #[9, 9] }, type := 3, pos := "iface.go:100", after := #[⟨0, .data⟩, ⟨5, .data⟩, ⟨9, .data⟩], guard := none }) rfl (fun K hK => ?_) ?_
      · (go_simp; refine (HCl.out _ (by repeat (first | (with_reducible exact Below.refl _ _) | (with_reducible assumption) | (with_reducible refine Below.drew ?_) | (with_reducible refine Below.drewN ?_ _)))).mono ?_; rintro e wq ⟨rfl, hbq⟩; go_wp2_with fail; have hbQ := Below.trans (show Below wr.heap.size wr _ from (by repeat (first | (with_reducible exact Below.refl _ _) | (with_reducible assumption) | (with_reducible refine Below.drew ?_) | (with_reducible refine Below.drewN ?_ _)))) (hbq.mono (Below.size (show Below wr.heap.size wr _ from (by repeat (first | (with_reducible exact Below.refl _ _) | (with_reducible assumption) | (with_reducible refine Below.drew ?_) | (with_reducible refine Below.drewN ?_ _)))))))
        refine hK.out _ _ (fun _ => ?_) (fun hE => ?_)
        · first | exact hQ.out _ hbQ | exact hQ.out _ (by repeat (first | (with_reducible exact Below.refl _ _) | (with_reducible assumption) | (with_reducible refine Below.drew ?_) | (with_reducible refine Below.drewN ?_ _)))
        have hS := hE (by kernel_rfl)
        clear hK K hE
        try simp only [Act.put, List.setIfInBounds_toArray, List.set_cons_zero, List.set_cons_succ]
        refine wpAnyT_pure (i := 11) (oi := { dst := some 23, op := Op.binOp BinOp.geq 3 (Operand.tmp 22) (Operand.const (Value.int IntKind.i64 0)) 3, type := 4, pos := "iface.go:100", after := #[⟨10, .data⟩], guard := none }) (v := ?v4_11_11) rfl (by kernel_rfl) (fun _ _ _ h => h) (Or.inl ⟨by rfl, ?y4_11_11⟩) (fun _ => hS) ?_
        case y4_11_11 => (intro w hSw; go_simp; try with_reducible rfl)
        try simp only [Act.put, List.setIfInBounds_toArray, List.set_cons_zero, List.set_cons_succ]
        refine wpAnyT_done (by kernel_rfl) ?_ _
        refine NoPanic.normal ?_
        have HBQ := Lib.hid (HB.out.trans (hbQ.mono HB.out.size))
        clear hbQ hbq
        by_cases hcc : 0 ≤ c x y
        · have hst := HSt.out
          rw [if_pos hcc] at hst
          have HE := Lib.hid (hno.out.trans hst)
          clear hst
          go_wp2_with fail
          go_ret
          exact ⟨ret_bool HE.out.symm, HBQ.out⟩
        · have hst := HSt.out
          rw [if_neg hcc] at hst
          have HE := Lib.hid (hno.out.trans hst)
          clear hst
          go_wp2_with fail
          go_roundw
          case rel => exact ⟨j + 1, by go_num, by omega, HBQ.out, HE.out⟩
          case measure => simp [intOf]; omega
      exact AllT.nil
    · have HE := Lib.hid (hno.out.trans (incr_end c l j (by omega)))
      have HB := Lib.hid hb
      have k1 : ¬ (j : Int) + 1 < (l.length : Int) := by omega
      clear hno hb
      go_wp2_with fail
      go_ret
      exact ⟨ret_bool HE.out.symm, HB.out⟩
set_option maxRecDepth 100000 in
set_option maxHeartbeats 8000000 in
theorem sortedFixSig_any (l : List FixSig) (v : Value) (F : Nat → Prop) (w : World) (hv : Sl w F FixSig.d l v) (m : FuncId) (c : FixSig → FixSig → Int) (eg : Enters Tryd.prog m)
    (hc : ∀ i j (hi : i < l.length) (hj : j < l.length) cs ds w1, Below w.heap.size w w1 → Rp w1 F (FixSig.d l[i]) cs → Rp w1 F (FixSig.d l[j]) ds → Calls Tryd.prog m #[.agg cs.toArray, .agg ds.toArray] w1 fun e w' => e = .returned (.int .i64 (c l[i] l[j])) ∧ Below w1.heap.size w1 w') :
    Calls Tryd.prog 68 #[v, .func (.func m) #[] #[]] w fun e w' => e = .returned (.bool (incr c l)) ∧ Below w.heap.size w w' := by
  obtain ⟨A, c0, rfl, hlc, hcm, _⟩ := hv.form
  have hl : l.length ≤ 9223372036854775807 := by unfold maxLen at hcm; omega
  have HC := Lib.hid hc
  have HV := Lib.hid hv
  clear hc hv hlc hcm
  unfold Enters at eg
  go_enter Tryd.func68, Tryd.ntmps68
  go_wp2_with fail
  go_loopw [5] (fun i wr => ∃ k : Nat, .int .i64 ((k + 1 : Nat) : Int) = i ∧ k ≤ l.length ∧ Below w.heap.size w wr ∧ Hid (incr c l = incr c (l.drop k))) (fun i _ => l.length + 1 - (intOf i).toNat)
  case atStart => exact ⟨0, rfl, Nat.zero_le _, Below.refl _ _, rfl⟩
  case round =>
    obtain ⟨j, rfl, hjl, hb, hno⟩ := hrel
    by_cases hlt : j + 1 < l.length
    · have hv' := HV.out.later hb
      obtain ⟨ga, oa, hA, hga, a0, a1, a2, sa0, sa1, sa2⟩ := FixSig.get hv' (show j < l.length by omega)
      obtain ⟨gb, ob, hB, hgb, b0, b1, b2, sb0, sb1, sb2⟩ := FixSig.get hv' hlt
      have hst := incr_step c l j hlt
      have HCC := HC.out j (j + 1) (by omega) hlt
      obtain ⟨x, hx⟩ : ∃ x, l[j] = x := ⟨_, rfl⟩
      obtain ⟨y, hy⟩ : ∃ y, l[j + 1] = y := ⟨_, rfl⟩
      rw [hx] at a0 a1 a2 sa0 sa1 sa2 hst
      rw [hy] at b0 b1 b2 sb0 sb1 sb2 hst
      rw [hx, hy] at HCC
      rw [hA] at hB
      cases hB
      subst hA
      have hRa : Rp wr F (FixSig.d x) [.string x.op, .int .i64 x.side, .int .i64 x.level] := FixSig.rp.2 ⟨rfl, sa0, sa1, sa2⟩
      have hRb : Rp wr F (FixSig.d y) [.string y.op, .int .i64 y.side, .int .i64 y.level] := FixSig.rp.2 ⟨rfl, sb0, sb1, sb2⟩
      have HCl : Hid (∀ X, Below wr.heap.size wr X → Calls Tryd.prog m #[.agg #[.string x.op, .int .i64 x.side, .int .i64 x.level], .agg #[.string y.op, .int .i64 y.side, .int .i64 y.level]] X fun e w' => e = .returned (.int .i64 (c x y)) ∧ Below X.heap.size X w') := fun X hX => HCC [.string x.op, .int .i64 x.side, .int .i64 x.level] [.string y.op, .int .i64 y.side, .int .i64 y.level] X (hb.trans (hX.mono hb.size)) (hRa.later hX) (hRb.later hX)
      have hQ : Hid (∀ X, Below wr.heap.size wr X → (X.cell? ⟨ga, oa + (j * 3), none⟩ = some (.string x.op) ∧ X.cell? ⟨ga, oa + (j * 3) + 1, none⟩ = some (.int .i64 x.side) ∧ X.cell? ⟨ga, oa + (j * 3) + 2, none⟩ = some (.int .i64 x.level) ∧ X.cell? ⟨ga, oa + ((j + 1) * 3), none⟩ = some (.string y.op) ∧ X.cell? ⟨ga, oa + ((j + 1) * 3) + 1, none⟩ = some (.int .i64 y.side) ∧ X.cell? ⟨ga, oa + ((j + 1) * 3) + 2, none⟩ = some (.int .i64 y.level))) := fun X hX => ⟨(hX.cell (block_lt_of_cell a0)).trans a0, (hX.cell (block_lt_of_cell a1)).trans a1, (hX.cell (block_lt_of_cell a2)).trans a2, (hX.cell (block_lt_of_cell b0)).trans b0, (hX.cell (block_lt_of_cell b1)).trans b1, (hX.cell (block_lt_of_cell b2)).trans b2⟩
      have k0 : (0 : Int) ≤ (j : Int) := by omega
      have k1 : (j : Int) + 1 < (l.length : Int) := by omega
      have k2 : (j : Int) < (l.length : Int) := by omega
      have k3 : IntKind.i64.wrap (j : Int) = (j : Int) := by rw [IntKind.wrap_i64]; omega
      have k4 : ((j : Int) + 1).toNat = j + 1 := by omega
      have k5 : (0 : Int) ≤ (j : Int) + 1 := by omega
      have HB := Lib.hid hb
      have hq := (hQ.out wr (Below.refl _ _))
      clear HCC hRa hRb hx hy a0 b0 a1 b1 a2 b2 sa0 sa1 sa2 sb0 sb1 sb2 hga hgb hv' hb
      have HSt := Lib.hid hst
      clear hst hq
      go_upto_region 4 with (fail)
      refine wp_region_noPanic ?_
      refine wp_region_till [] (fun X => X.cell? ⟨ga, oa + (j * 3), none⟩ = some (.string x.op) ∧ X.cell? ⟨ga, oa + (j * 3) + 1, none⟩ = some (.int .i64 x.side) ∧ X.cell? ⟨ga, oa + (j * 3) + 2, none⟩ = some (.int .i64 x.level) ∧ X.cell? ⟨ga, oa + ((j + 1) * 3), none⟩ = some (.string y.op) ∧ X.cell? ⟨ga, oa + ((j + 1) * 3) + 1, none⟩ = some (.int .i64 y.side) ∧ X.cell? ⟨ga, oa + ((j + 1) * 3) + 2, none⟩ = some (.int .i64 y.level)) (by kernel_rfl) ?_ (fun hE => ?_)
      · first | exact hQ.out _ hbQ | exact hQ.out _ (by repeat (first | (with_reducible exact Below.refl _ _) | (with_reducible assumption) | (with_reducible refine Below.drew ?_) | (with_reducible refine Below.drewN ?_ _)))
      have hS := hE (by kernel_rfl)
      refine wpAnyT_pure (i := 0) (oi := { dst := some 12, op := Op.move (Operand.tmp 1), type := 132, pos := "iface.go:100", after := #[], guard := none }) (v := ?v4_0_1) rfl (by kernel_rfl) (fun _ _ _ h => h) (Or.inl ⟨by rfl, ?y4_0_1⟩) (fun _ => hS) ?_
      case y4_0_1 => (intro w hSw; go_simp; try with_reducible rfl)
      try simp only [Act.put, List.setIfInBounds_toArray, List.set_cons_zero, List.set_cons_succ]
      refine wpAnyT_pure (i := 1) (oi := { dst := some 13, op := Op.move (Operand.tmp 0), type := 26, pos := "iface.go:100", after := #[], guard := none }) (v := ?v4_1_2) rfl (by kernel_rfl) (fun _ _ _ h => h) (Or.inl ⟨by rfl, ?y4_1_2⟩) (fun _ => hS) ?_
      case y4_1_2 => (intro w hSw; go_simp; try with_reducible rfl)
      try simp only [Act.put, List.setIfInBounds_toArray, List.set_cons_zero, List.set_cons_succ]
      refine wpAnyT_pure (i := 2) (oi := { dst := some 14, op := Op.move (Operand.tmp 5), type := 3, pos := "iface.go:100", after := #[], guard := none }) (v := ?v4_2_3) rfl (by kernel_rfl) (fun _ _ _ h => h) (Or.inl ⟨by rfl, ?y4_2_3⟩) (fun _ => hS) ?_
      case y4_2_3 => (intro w hSw; go_simp; try with_reducible rfl)
      try simp only [Act.put, List.setIfInBounds_toArray, List.set_cons_zero, List.set_cons_succ]
      refine wpAnyT_pure (i := 3) (oi := { dst := some 15, op := Op.binOp BinOp.sub 3 (Operand.tmp 14) (Operand.const (Value.int IntKind.i64 1)) 3, type := 3, pos := "iface.go:100", after := #[⟨2, .data⟩], guard := none }) (v := ?v4_3_4) rfl (by kernel_rfl) (fun _ _ _ h => h) (Or.inl ⟨by rfl, ?y4_3_4⟩) (fun _ => hS) ?_
      case y4_3_4 => (intro w hSw; go_simp; try with_reducible rfl)
      try simp only [Act.put, List.setIfInBounds_toArray, List.set_cons_zero, List.set_cons_succ]
      refine wpAnyT_pure (i := 4) (oi := { dst := some 16, op := Op.indexAddr 26 (Operand.tmp 13) (Operand.tmp 15), type := 0, pos := "iface.go:100", after := #[⟨1, .data⟩, ⟨3, .data⟩], guard := none }) (v := ?v4_4_5) rfl (by kernel_rfl) (fun _ _ _ h => h) (Or.inl ⟨by rfl, ?y4_4_5⟩) (fun _ => hS) ?_
      case y4_4_5 => (intro w hSw; go_simp; try with_reducible rfl)
      try simp only [Act.put, List.setIfInBounds_toArray, List.set_cons_zero, List.set_cons_succ]
      refine wpAnyT_take (i := 5) (oi := { dst := some 17, op := Op.load 51 (Operand.tmp 16), type := 51, pos := "iface.go:100", after := #[⟨4, .data⟩], guard := none }) (v := ?v4_5_6) rfl (by kernel_rfl) (fun _ _ _ h => h) (Or.inl ⟨by rfl, ?y4_5_6⟩) hS ?_
      case y4_5_6 => (intro w hSw; (try dsimp only at hSw); go_simp; try with_reducible rfl)
      try simp only [Act.put, List.setIfInBounds_toArray, List.set_cons_zero, List.set_cons_succ]
      refine wpAnyT_pure (i := 6) (oi := { dst := some 18, op := Op.move (Operand.tmp 0), type := 26, pos := "iface.go:100", after := #[], guard := none }) (v := ?v4_6_7) rfl (by kernel_rfl) (fun _ _ _ h => h) (Or.inl ⟨by rfl, ?y4_6_7⟩) (fun _ => hS) ?_
      case y4_6_7 => (intro w hSw; go_simp; try with_reducible rfl)
      try simp only [Act.put, List.setIfInBounds_toArray, List.set_cons_zero, List.set_cons_succ]
      refine wpAnyT_pure (i := 7) (oi := { dst := some 19, op := Op.move (Operand.tmp 5), type := 3, pos := "iface.go:100", after := #[], guard := none }) (v := ?v4_7_8) rfl (by kernel_rfl) (fun _ _ _ h => h) (Or.inl ⟨by rfl, ?y4_7_8⟩) (fun _ => hS) ?_
      case y4_7_8 => (intro w hSw; go_simp; try with_reducible rfl)
      try simp only [Act.put, List.setIfInBounds_toArray, List.set_cons_zero, List.set_cons_succ]
      refine wpAnyT_pure (i := 8) (oi := { dst := some 20, op := Op.indexAddr 26 (Operand.tmp 18) (Operand.tmp 19), type := 0, pos := "iface.go:100", after := #[⟨6, .data⟩, ⟨7, .data⟩], guard := none }) (v := ?v4_8_9) rfl (by kernel_rfl) (fun _ _ _ h => h) (Or.inl ⟨by rfl, ?y4_8_9⟩) (fun _ => hS) ?_
      case y4_8_9 => (intro w hSw; go_simp; try with_reducible rfl)
      try simp only [Act.put, List.setIfInBounds_toArray, List.set_cons_zero, List.set_cons_succ]
      refine wpAnyT_take (i := 9) (oi := { dst := some 21, op := Op.load 51 (Operand.tmp 20), type := 51, pos := "iface.go:100", after := #[⟨8, .data⟩], guard := none }) (v := ?v4_9_10) rfl (by kernel_rfl) (fun _ _ _ h => h) (Or.inl ⟨by rfl, ?y4_9_10⟩) hS ?_
      case y4_9_10 => (intro w hSw; (try dsimp only at hSw); go_simp; try with_reducible rfl)
      try simp only [Act.put, List.setIfInBounds_toArray, List.set_cons_zero, List.set_cons_succ]
      refine wpAnyT_ready (rs := [10]) (by kernel_rfl) rfl ?_
      refine AllT.cons (o := { dst := some 22, op := Op.call { callee := Callee.value (Operand.tmp 12), args := #[Operand.tmp 17, Operand.tmp 21], argTypes := #[51, 51] }, type := 3, pos := "iface.go:100", after := #[⟨0, .data⟩, ⟨5, .data⟩, ⟨9, .data⟩], guard := none }) rfl (fun K hK => ?_) ?_
      · (go_simp; refine (HCl.out _ (by repeat (first | (with_reducible exact Below.refl _ _) | (with_reducible assumption) | (with_reducible refine Below.drew ?_) | (with_reducible refine Below.drewN ?_ _)))).mono ?_; rintro e wq ⟨rfl, hbq⟩; go_wp2_with fail; have hbQ := Below.trans (show Below wr.heap.size wr _ from (by repeat (first | (with_reducible exact Below.refl _ _) | (with_reducible assumption) | (with_reducible refine Below.drew ?_) | (with_reducible refine Below.drewN ?_ _)))) (hbq.mono (Below.size (show Below wr.heap.size wr _ from (by repeat (first | (with_reducible exact Below.refl _ _) | (with_reducible assumption) | (with_reducible refine Below.drew ?_) | (with_reducible refine Below.drewN ?_ _)))))))
        refine hK.out _ _ (fun _ => ?_) (fun hE => ?_)
        · first | exact hQ.out _ hbQ | exact hQ.out _ (by repeat (first | (with_reducible exact Below.refl _ _) | (with_reducible assumption) | (with_reducible refine Below.drew ?_) | (with_reducible refine Below.drewN ?_ _)))
        have hS := hE (by kernel_rfl)
        clear hK K hE
        try simp only [Act.put, List.setIfInBounds_toArray, List.set_cons_zero, List.set_cons_succ]
        refine wpAnyT_pure (i := 11) (oi := { dst := some 23, op := Op.binOp BinOp.geq 3 (Operand.tmp 22) (Operand.const (Value.int IntKind.i64 0)) 3, type := 4, pos := "iface.go:100", after := #[⟨10, .data⟩], guard := none }) (v := ?v4_11_11) rfl (by kernel_rfl) (fun _ _ _ h => h) (Or.inl ⟨by rfl, ?y4_11_11⟩) (fun _ => hS) ?_
        case y4_11_11 => (intro w hSw; go_simp; try with_reducible rfl)
        try simp only [Act.put, List.setIfInBounds_toArray, List.set_cons_zero, List.set_cons_succ]
        refine wpAnyT_done (by kernel_rfl) ?_ _
        refine NoPanic.normal ?_
        have HBQ := Lib.hid (HB.out.trans (hbQ.mono HB.out.size))
        clear hbQ hbq
        by_cases hcc : 0 ≤ c x y
        · have hst := HSt.out
          rw [if_pos hcc] at hst
          have HE := Lib.hid (hno.out.trans hst)
          clear hst
          go_wp2_with fail
          go_ret
          exact ⟨ret_bool HE.out.symm, HBQ.out⟩
        · have hst := HSt.out
          rw [if_neg hcc] at hst
          have HE := Lib.hid (hno.out.trans hst)
          clear hst
          go_wp2_with fail
          go_roundw
          case rel => exact ⟨j + 1, by go_num, by omega, HBQ.out, HE.out⟩
          case measure => simp [intOf]; omega
      exact AllT.nil
    · have HE := Lib.hid (hno.out.trans (incr_end c l j (by omega)))
      have HB := Lib.hid hb
      have k1 : ¬ (j : Int) + 1 < (l.length : Int) := by omega
      clear hno hb
      go_wp2_with fail
      go_ret
      exact ⟨ret_bool HE.out.symm, HB.out⟩
set_option maxRecDepth 100000 in
set_option maxHeartbeats 8000000 in
theorem sortedDataSig_any (l : List DataSig) (v : Value) (F : Nat → Prop) (w : World) (hv : Sl w F DataSig.d l v) (m : FuncId) (c : DataSig → DataSig → Int) (eg : Enters Tryd.prog m)
    (hc : ∀ i j (hi : i < l.length) (hj : j < l.length) cs ds w1, Below w.heap.size w w1 → Rp w1 F (DataSig.d l[i]) cs → Rp w1 F (DataSig.d l[j]) ds → Calls Tryd.prog m #[.agg cs.toArray, .agg ds.toArray] w1 fun e w' => e = .returned (.int .i64 (c l[i] l[j])) ∧ Below w1.heap.size w1 w') :
    Calls Tryd.prog 71 #[v, .func (.func m) #[] #[]] w fun e w' => e = .returned (.bool (incr c l)) ∧ Below w.heap.size w w' := by
  obtain ⟨A, c0, rfl, hlc, hcm, _⟩ := hv.form
  have hl : l.length ≤ 9223372036854775807 := by unfold maxLen at hcm; omega
  have HC := Lib.hid hc
  have HV := Lib.hid hv
  clear hc hv hlc hcm
  unfold Enters at eg
  go_enter Tryd.func71, Tryd.ntmps71
  go_wp2_with fail
  go_loopw [5] (fun i wr => ∃ k : Nat, .int .i64 ((k + 1 : Nat) : Int) = i ∧ k ≤ l.length ∧ Below w.heap.size w wr ∧ Hid (incr c l = incr c (l.drop k))) (fun i _ => l.length + 1 - (intOf i).toNat)
  case atStart => exact ⟨0, rfl, Nat.zero_le _, Below.refl _ _, rfl⟩
  case round =>
    obtain ⟨j, rfl, hjl, hb, hno⟩ := hrel
    by_cases hlt : j + 1 < l.length
    · have hv' := HV.out.later hb
      obtain ⟨ga, oa, va2, hA, hga, a0, a1, a2, sa0, sa1, sa2⟩ := DataSig.get hv' (show j < l.length by omega)
      obtain ⟨gb, ob, vb2, hB, hgb, b0, b1, b2, sb0, sb1, sb2⟩ := DataSig.get hv' hlt
      have hst := incr_step c l j hlt
      have HCC := HC.out j (j + 1) (by omega) hlt
      obtain ⟨x, hx⟩ : ∃ x, l[j] = x := ⟨_, rfl⟩
      obtain ⟨y, hy⟩ : ∃ y, l[j + 1] = y := ⟨_, rfl⟩
      rw [hx] at a0 a1 sa0 sa1 sa2 hst
      rw [hy] at b0 b1 sb0 sb1 sb2 hst
      rw [hx, hy] at HCC
      obtain ⟨Aa2, qa2, rfl, -, -, -⟩ := sa2.form
      obtain ⟨Ab2, qb2, rfl, -, -, -⟩ := sb2.form
      rw [hA] at hB
      cases hB
      subst hA
      have hRa : Rp wr F (DataSig.d x) [.string x.name, .int .i64 x.params, .slice Aa2 x.cons.length qa2] := DataSig.rp.2 ⟨_, rfl, sa0, sa1, sa2⟩
      have hRb : Rp wr F (DataSig.d y) [.string y.name, .int .i64 y.params, .slice Ab2 y.cons.length qb2] := DataSig.rp.2 ⟨_, rfl, sb0, sb1, sb2⟩
      have HCl : Hid (∀ X, Below wr.heap.size wr X → Calls Tryd.prog m #[.agg #[.string x.name, .int .i64 x.params, .slice Aa2 x.cons.length qa2], .agg #[.string y.name, .int .i64 y.params, .slice Ab2 y.cons.length qb2]] X fun e w' => e = .returned (.int .i64 (c x y)) ∧ Below X.heap.size X w') := fun X hX => HCC [.string x.name, .int .i64 x.params, .slice Aa2 x.cons.length qa2] [.string y.name, .int .i64 y.params, .slice Ab2 y.cons.length qb2] X (hb.trans (hX.mono hb.size)) (hRa.later hX) (hRb.later hX)
      have hQ : Hid (∀ X, Below wr.heap.size wr X → (X.cell? ⟨ga, oa + (j * 3), none⟩ = some (.string x.name) ∧ X.cell? ⟨ga, oa + (j * 3) + 1, none⟩ = some (.int .i64 x.params) ∧ X.cell? ⟨ga, oa + (j * 3) + 2, none⟩ = some (.slice Aa2 x.cons.length qa2) ∧ X.cell? ⟨ga, oa + ((j + 1) * 3), none⟩ = some (.string y.name) ∧ X.cell? ⟨ga, oa + ((j + 1) * 3) + 1, none⟩ = some (.int .i64 y.params) ∧ X.cell? ⟨ga, oa + ((j + 1) * 3) + 2, none⟩ = some (.slice Ab2 y.cons.length qb2))) := fun X hX => ⟨(hX.cell (block_lt_of_cell a0)).trans a0, (hX.cell (block_lt_of_cell a1)).trans a1, (hX.cell (block_lt_of_cell a2)).trans a2, (hX.cell (block_lt_of_cell b0)).trans b0, (hX.cell (block_lt_of_cell b1)).trans b1, (hX.cell (block_lt_of_cell b2)).trans b2⟩
      have k0 : (0 : Int) ≤ (j : Int) := by omega
      have k1 : (j : Int) + 1 < (l.length : Int) := by omega
      have k2 : (j : Int) < (l.length : Int) := by omega
      have k3 : IntKind.i64.wrap (j : Int) = (j : Int) := by rw [IntKind.wrap_i64]; omega
      have k4 : ((j : Int) + 1).toNat = j + 1 := by omega
      have k5 : (0 : Int) ≤ (j : Int) + 1 := by omega
      have HB := Lib.hid hb
      have hq := (hQ.out wr (Below.refl _ _))
      clear HCC hRa hRb hx hy a0 b0 a1 b1 a2 b2 sa0 sa1 sa2 sb0 sb1 sb2 hga hgb hv' hb
      have HSt := Lib.hid hst
      clear hst hq
      go_upto_region 4 with (fail)
      refine wp_region_noPanic ?_
      refine wp_region_till [] (fun X => X.cell? ⟨ga, oa + (j * 3), none⟩ = some (.string x.name) ∧ X.cell? ⟨ga, oa + (j * 3) + 1, none⟩ = some (.int .i64 x.params) ∧ X.cell? ⟨ga, oa + (j * 3) + 2, none⟩ = some (.slice Aa2 x.cons.length qa2) ∧ X.cell? ⟨ga, oa + ((j + 1) * 3), none⟩ = some (.string y.name) ∧ X.cell? ⟨ga, oa + ((j + 1) * 3) + 1, none⟩ = some (.int .i64 y.params) ∧ X.cell? ⟨ga, oa + ((j + 1) * 3) + 2, none⟩ = some (.slice Ab2 y.cons.length qb2)) (by kernel_rfl) ?_ (fun hE => ?_)
      · first | exact hQ.out _ hbQ | exact hQ.out _ (by repeat (first | (with_reducible exact Below.refl _ _) | (with_reducible assumption) | (with_reducible refine Below.drew ?_) | (with_reducible refine Below.drewN ?_ _)))
      have hS := hE (by kernel_rfl)
      refine wpAnyT_pure (i := 0) (oi := { dst := some 12, op := Op.move (Operand.tmp 1), type := 134, pos := "iface.go:100", after := #[], guard := none }) (v := ?v4_0_1) rfl (by kernel_rfl) (fun _ _ _ h => h) (Or.inl ⟨by rfl, ?y4_0_1⟩) (fun _ => hS) ?_
      case y4_0_1 => (intro w hSw; go_simp; try with_reducible rfl)
      try simp only [Act.put, List.setIfInBounds_toArray, List.set_cons_zero, List.set_cons_succ]
      refine wpAnyT_pure (i := 1) (oi := { dst := some 13, op := Op.move (Operand.tmp 0), type := 27, pos := "iface.go:100", after := #[], guard := none }) (v := ?v4_1_2) rfl (by kernel_rfl) (fun _ _ _ h => h) (Or.inl ⟨by rfl, ?y4_1_2⟩) (fun _ => hS) ?_
      case y4_1_2 => (intro w hSw; go_simp; try with_reducible rfl)
      try simp only [Act.put, List.setIfInBounds_toArray, List.set_cons_zero, List.set_cons_succ]
      refine wpAnyT_pure (i := 2) (oi := { dst := some 14, op := Op.move (Operand.tmp 5), type := 3, pos := "iface.go:100", after := #[], guard := none }) (v := ?v4_2_3) rfl (by kernel_rfl) (fun _ _ _ h => h) (Or.inl ⟨by rfl, ?y4_2_3⟩) (fun _ => hS) ?_
      case y4_2_3 => (intro w hSw; go_simp; try with_reducible rfl)
      try simp only [Act.put, List.setIfInBounds_toArray, List.set_cons_zero, List.set_cons_succ]
      refine wpAnyT_pure (i := 3) (oi := { dst := some 15, op := Op.binOp BinOp.sub 3 (Operand.tmp 14) (Operand.const (Value.int IntKind.i64 1)) 3, type := 3, pos := "iface.go:100", after := #[⟨2, .data⟩], guard := none }) (v := ?v4_3_4) rfl (by kernel_rfl) (fun _ _ _ h => h) (Or.inl ⟨by rfl, ?y4_3_4⟩) (fun _ => hS) ?_
      case y4_3_4 => (intro w hSw; go_simp; try with_reducible rfl)
      try simp only [Act.put, List.setIfInBounds_toArray, List.set_cons_zero, List.set_cons_succ]
      refine wpAnyT_pure (i := 4) (oi := { dst := some 16, op := Op.indexAddr 27 (Operand.tmp 13) (Operand.tmp 15), type := 0, pos := "iface.go:100", after := #[⟨1, .data⟩, ⟨3, .data⟩], guard := none }) (v := ?v4_4_5) rfl (by kernel_rfl) (fun _ _ _ h => h) (Or.inl ⟨by rfl, ?y4_4_5⟩) (fun _ => hS) ?_
      case y4_4_5 => (intro w hSw; go_simp; try with_reducible rfl)
      try simp only [Act.put, List.setIfInBounds_toArray, List.set_cons_zero, List.set_cons_succ]
      refine wpAnyT_take (i := 5) (oi := { dst := some 17, op := Op.load 54 (Operand.tmp 16), type := 54, pos := "iface.go:100", after := #[⟨4, .data⟩], guard := none }) (v := ?v4_5_6) rfl (by kernel_rfl) (fun _ _ _ h => h) (Or.inl ⟨by rfl, ?y4_5_6⟩) hS ?_
      case y4_5_6 => (intro w hSw; (try dsimp only at hSw); go_simp; try with_reducible rfl)
      try simp only [Act.put, List.setIfInBounds_toArray, List.set_cons_zero, List.set_cons_succ]
      refine wpAnyT_pure (i := 6) (oi := { dst := some 18, op := Op.move (Operand.tmp 0), type := 27, pos := "iface.go:100", after := #[], guard := none }) (v := ?v4_6_7) rfl (by kernel_rfl) (fun _ _ _ h => h) (Or.inl ⟨by rfl, ?y4_6_7⟩) (fun _ => hS) ?_
      case y4_6_7 => (intro w hSw; go_simp; try with_reducible rfl)
      try simp only [Act.put, List.setIfInBounds_toArray, List.set_cons_zero, List.set_cons_succ]
      refine wpAnyT_pure (i := 7) (oi := { dst := some 19, op := Op.move (Operand.tmp 5), type := 3, pos := "iface.go:100", after := #[], guard := none }) (v := ?v4_7_8) rfl (by kernel_rfl) (fun _ _ _ h => h) (Or.inl ⟨by rfl, ?y4_7_8⟩) (fun _ => hS) ?_
      case y4_7_8 => (intro w hSw; go_simp; try with_reducible rfl)
      try simp only [Act.put, List.setIfInBounds_toArray, List.set_cons_zero, List.set_cons_succ]
      refine wpAnyT_pure (i := 8) (oi := { dst := some 20, op := Op.indexAddr 27 (Operand.tmp 18) (Operand.tmp 19), type := 0, pos := "iface.go:100", after := #[⟨6, .data⟩, ⟨7, .data⟩], guard := none }) (v := ?v4_8_9) rfl (by kernel_rfl) (fun _ _ _ h => h) (Or.inl ⟨by rfl, ?y4_8_9⟩) (fun _ => hS) ?_
      case y4_8_9 => (intro w hSw; go_simp; try with_reducible rfl)
      try simp only [Act.put, List.setIfInBounds_toArray, List.set_cons_zero, List.set_cons_succ]
      refine wpAnyT_take (i := 9) (oi := { dst := some 21, op := Op.load 54 (Operand.tmp 20), type := 54, pos := "iface.go:100", after := #[⟨8, .data⟩], guard := none }) (v := ?v4_9_10) rfl (by kernel_rfl) (fun _ _ _ h => h) (Or.inl ⟨by rfl, ?y4_9_10⟩) hS ?_
      case y4_9_10 => (intro w hSw; (try dsimp only at hSw); go_simp; try with_reducible rfl)
      try simp only [Act.put, List.setIfInBounds_toArray, List.set_cons_zero, List.set_cons_succ]
      refine wpAnyT_ready (rs := [10]) (by kernel_rfl) rfl ?_
      refine AllT.cons (o := { dst := some 22, op := Op.call { callee := Callee.value (Operand.tmp 12), args := #[Operand.tmp 17, Operand.tmp 21], argTypes := #[54, 54] }, type := 3, pos := "iface.go:100", after := #[⟨0, .data⟩, ⟨5, .data⟩, ⟨9, .data⟩], guard := none }) rfl (fun K hK => ?_) ?_
      · (go_simp; refine (HCl.out _ (by repeat (first | (with_reducible exact Below.refl _ _) | (with_reducible assumption) | (with_reducible refine Below.drew ?_) | (with_reducible refine Below.drewN ?_ _)))).mono ?_; rintro e wq ⟨rfl, hbq⟩; go_wp2_with fail; have hbQ := Below.trans (show Below wr.heap.size wr _ from (by repeat (first | (with_reducible exact Below.refl _ _) | (with_reducible assumption) | (with_reducible refine Below.drew ?_) | (with_reducible refine Below.drewN ?_ _)))) (hbq.mono (Below.size (show Below wr.heap.size wr _ from (by repeat (first | (with_reducible exact Below.refl _ _) | (with_reducible assumption) | (with_reducible refine Below.drew ?_) | (with_reducible refine Below.drewN ?_ _)))))))
        refine hK.out _ _ (fun _ => ?_) (fun hE => ?_)
        · first | exact hQ.out _ hbQ | exact hQ.out _ (by repeat (first | (with_reducible exact Below.refl _ _) | (with_reducible assumption) | (with_reducible refine Below.drew ?_) | (with_reducible refine Below.drewN ?_ _)))
        have hS := hE (by kernel_rfl)
        clear hK K hE
        try simp only [Act.put, List.setIfInBounds_toArray, List.set_cons_zero, List.set_cons_succ]
        refine wpAnyT_pure (i := 11) (oi := { dst := some 23, op := Op.binOp BinOp.geq 3 (Operand.tmp 22) (Operand.const (Value.int IntKind.i64 0)) 3, type := 4, pos := "iface.go:100", after := #[⟨10, .data⟩], guard := none }) (v := ?v4_11_11) rfl (by kernel_rfl) (fun _ _ _ h => h) (Or.inl ⟨by rfl, ?y4_11_11⟩) (fun _ => hS) ?_
        case y4_11_11 => (intro w hSw; go_simp; try with_reducible rfl)
        try simp only [Act.put, List.setIfInBounds_toArray, List.set_cons_zero, List.set_cons_succ]
        refine wpAnyT_done (by kernel_rfl) ?_ _
        refine NoPanic.normal ?_
        have HBQ := Lib.hid (HB.out.trans (hbQ.mono HB.out.size))
        clear hbQ hbq
        by_cases hcc : 0 ≤ c x y
        · have hst := HSt.out
          rw [if_pos hcc] at hst
          have HE := Lib.hid (hno.out.trans hst)
          clear hst
          go_wp2_with fail
          go_ret
          exact ⟨ret_bool HE.out.symm, HBQ.out⟩
        · have hst := HSt.out
          rw [if_neg hcc] at hst
          have HE := Lib.hid (hno.out.trans hst)
          clear hst
          go_wp2_with fail
          go_roundw
          case rel => exact ⟨j + 1, by go_num, by omega, HBQ.out, HE.out⟩
          case measure => simp [intOf]; omega
      exact AllT.nil
    · have HE := Lib.hid (hno.out.trans (incr_end c l j (by omega)))
      have HB := Lib.hid hb
      have k1 : ¬ (j : Int) + 1 < (l.length : Int) := by omega
      clear hno hb
      go_wp2_with fail
      go_ret
      exact ⟨ret_bool HE.out.symm, HB.out⟩
set_option maxRecDepth 100000 in
set_option maxHeartbeats 8000000 in
theorem sortedClassSig_any (l : List ClassSig) (v : Value) (F : Nat → Prop) (w : World) (hv : Sl w F ClassSig.d l v) (m : FuncId) (c : ClassSig → ClassSig → Int) (eg : Enters Tryd.prog m)
    (hc : ∀ i j (hi : i < l.length) (hj : j < l.length) cs ds w1, Below w.heap.size w w1 → Rp w1 F (ClassSig.d l[i]) cs → Rp w1 F (ClassSig.d l[j]) ds → Calls Tryd.prog m #[.agg cs.toArray, .agg ds.toArray] w1 fun e w' => e = .returned (.int .i64 (c l[i] l[j])) ∧ Below w1.heap.size w1 w') :
    Calls Tryd.prog 73 #[v, .func (.func m) #[] #[]] w fun e w' => e = .returned (.bool (incr c l)) ∧ Below w.heap.size w w' := by
  obtain ⟨A, c0, rfl, hlc, hcm, _⟩ := hv.form
  have hl : l.length ≤ 9223372036854775807 := by unfold maxLen at hcm; omega
  have HC := Lib.hid hc
  have HV := Lib.hid hv
  clear hc hv hlc hcm
  unfold Enters at eg
  go_enter Tryd.func73, Tryd.ntmps73
  go_wp2_with fail
  go_loopw [5] (fun i wr => ∃ k : Nat, .int .i64 ((k + 1 : Nat) : Int) = i ∧ k ≤ l.length ∧ Below w.heap.size w wr ∧ Hid (incr c l = incr c (l.drop k))) (fun i _ => l.length + 1 - (intOf i).toNat)
  case atStart => exact ⟨0, rfl, Nat.zero_le _, Below.refl _ _, rfl⟩
  case round =>
    obtain ⟨j, rfl, hjl, hb, hno⟩ := hrel
    by_cases hlt : j + 1 < l.length
    · have hv' := HV.out.later hb
      obtain ⟨ga, oa, va1, va2, hA, hga, a0, a1, a2, sa0, sa1, sa2⟩ := ClassSig.get hv' (show j < l.length by omega)
      obtain ⟨gb, ob, vb1, vb2, hB, hgb, b0, b1, b2, sb0, sb1, sb2⟩ := ClassSig.get hv' hlt
      have hst := incr_step c l j hlt
      have HCC := HC.out j (j + 1) (by omega) hlt
      obtain ⟨x, hx⟩ : ∃ x, l[j] = x := ⟨_, rfl⟩
      obtain ⟨y, hy⟩ : ∃ y, l[j + 1] = y := ⟨_, rfl⟩
      rw [hx] at a0 sa0 sa1 sa2 hst
      rw [hy] at b0 sb0 sb1 sb2 hst
      rw [hx, hy] at HCC
      obtain ⟨Aa1, qa1, rfl, -, -, -⟩ := sa1.form
      obtain ⟨Aa2, qa2, rfl, -, -, -⟩ := sa2.form
      obtain ⟨Ab1, qb1, rfl, -, -, -⟩ := sb1.form
      obtain ⟨Ab2, qb2, rfl, -, -, -⟩ := sb2.form
      rw [hA] at hB
      cases hB
      subst hA
      have hRa : Rp wr F (ClassSig.d x) [.string x.name, .slice Aa1 x.super.length qa1, .slice Aa2 x.ops.length qa2] := ClassSig.rp.2 ⟨_, _, rfl, sa0, sa1, sa2⟩
      have hRb : Rp wr F (ClassSig.d y) [.string y.name, .slice Ab1 y.super.length qb1, .slice Ab2 y.ops.length qb2] := ClassSig.rp.2 ⟨_, _, rfl, sb0, sb1, sb2⟩
      have HCl : Hid (∀ X, Below wr.heap.size wr X → Calls Tryd.prog m #[.agg #[.string x.name, .slice Aa1 x.super.length qa1, .slice Aa2 x.ops.length qa2], .agg #[.string y.name, .slice Ab1 y.super.length qb1, .slice Ab2 y.ops.length qb2]] X fun e w' => e = .returned (.int .i64 (c x y)) ∧ Below X.heap.size X w') := fun X hX => HCC [.string x.name, .slice Aa1 x.super.length qa1, .slice Aa2 x.ops.length qa2] [.string y.name, .slice Ab1 y.super.length qb1, .slice Ab2 y.ops.length qb2] X (hb.trans (hX.mono hb.size)) (hRa.later hX) (hRb.later hX)
      have hQ : Hid (∀ X, Below wr.heap.size wr X → (X.cell? ⟨ga, oa + (j * 3), none⟩ = some (.string x.name) ∧ X.cell? ⟨ga, oa + (j * 3) + 1, none⟩ = some (.slice Aa1 x.super.length qa1) ∧ X.cell? ⟨ga, oa + (j * 3) + 2, none⟩ = some (.slice Aa2 x.ops.length qa2) ∧ X.cell? ⟨ga, oa + ((j + 1) * 3), none⟩ = some (.string y.name) ∧ X.cell? ⟨ga, oa + ((j + 1) * 3) + 1, none⟩ = some (.slice Ab1 y.super.length qb1) ∧ X.cell? ⟨ga, oa + ((j + 1) * 3) + 2, none⟩ = some (.slice Ab2 y.ops.length qb2))) := fun X hX => ⟨(hX.cell (block_lt_of_cell a0)).trans a0, (hX.cell (block_lt_of_cell a1)).trans a1, (hX.cell (block_lt_of_cell a2)).trans a2, (hX.cell (block_lt_of_cell b0)).trans b0, (hX.cell (block_lt_of_cell b1)).trans b1, (hX.cell (block_lt_of_cell b2)).trans b2⟩
      have k0 : (0 : Int) ≤ (j : Int) := by omega
      have k1 : (j : Int) + 1 < (l.length : Int) := by omega
      have k2 : (j : Int) < (l.length : Int) := by omega
      have k3 : IntKind.i64.wrap (j : Int) = (j : Int) := by rw [IntKind.wrap_i64]; omega
      have k4 : ((j : Int) + 1).toNat = j + 1 := by omega
      have k5 : (0 : Int) ≤ (j : Int) + 1 := by omega
      have HB := Lib.hid hb
      have hq := (hQ.out wr (Below.refl _ _))
      clear HCC hRa hRb hx hy a0 b0 a1 b1 a2 b2 sa0 sa1 sa2 sb0 sb1 sb2 hga hgb hv' hb
      have HSt := Lib.hid hst
      clear hst hq
      go_upto_region 4 with (fail)
      refine wp_region_noPanic ?_
      refine wp_region_till [] (fun X => X.cell? ⟨ga, oa + (j * 3), none⟩ = some (.string x.name) ∧ X.cell? ⟨ga, oa + (j * 3) + 1, none⟩ = some (.slice Aa1 x.super.length qa1) ∧ X.cell? ⟨ga, oa + (j * 3) + 2, none⟩ = some (.slice Aa2 x.ops.length qa2) ∧ X.cell? ⟨ga, oa + ((j + 1) * 3), none⟩ = some (.string y.name) ∧ X.cell? ⟨ga, oa + ((j + 1) * 3) + 1, none⟩ = some (.slice Ab1 y.super.length qb1) ∧ X.cell? ⟨ga, oa + ((j + 1) * 3) + 2, none⟩ = some (.slice Ab2 y.ops.length qb2)) (by kernel_rfl) ?_ (fun hE => ?_)
      · first | exact hQ.out _ hbQ | exact hQ.out _ (by repeat (first | (with_reducible exact Below.refl _ _) | (with_reducible assumption) | (with_reducible refine Below.drew ?_) | (with_reducible refine Below.drewN ?_ _)))
      have hS := hE (by kernel_rfl)
      refine wpAnyT_pure (i := 0) (oi := { dst := some 12, op := Op.move (Operand.tmp 1), type := 136, pos := "iface.go:100", after := #[], guard := none }) (v := ?v4_0_1) rfl (by kernel_rfl) (fun _ _ _ h => h) (Or.inl ⟨by rfl, ?y4_0_1⟩) (fun _ => hS) ?_
      case y4_0_1 => (intro w hSw; go_simp; try with_reducible rfl)
      try simp only [Act.put, List.setIfInBounds_toArray, List.set_cons_zero, List.set_cons_succ]
      refine wpAnyT_pure (i := 1) (oi := { dst := some 13, op := Op.move (Operand.tmp 0), type := 28, pos := "iface.go:100", after := #[], guard := none }) (v := ?v4_1_2) rfl (by kernel_rfl) (fun _ _ _ h => h) (Or.inl ⟨by rfl, ?y4_1_2⟩) (fun _ => hS) ?_
      case y4_1_2 => (intro w hSw; go_simp; try with_reducible rfl)
      try simp only [Act.put, List.setIfInBounds_toArray, List.set_cons_zero, List.set_cons_succ]
      refine wpAnyT_pure (i := 2) (oi := { dst := some 14, op := Op.move (Operand.tmp 5), type := 3, pos := "iface.go:100", after := #[], guard := none }) (v := ?v4_2_3) rfl (by kernel_rfl) (fun _ _ _ h => h) (Or.inl ⟨by rfl, ?y4_2_3⟩) (fun _ => hS) ?_
      case y4_2_3 => (intro w hSw; go_simp; try with_reducible rfl)
      try simp only [Act.put, List.setIfInBounds_toArray, List.set_cons_zero, List.set_cons_succ]
      refine wpAnyT_pure (i := 3) (oi := { dst := some 15, op := Op.binOp BinOp.sub 3 (Operand.tmp 14) (Operand.const (Value.int IntKind.i64 1)) 3, type := 3, pos := "iface.go:100", after := #[⟨2, .data⟩], guard := none }) (v := ?v4_3_4) rfl (by kernel_rfl) (fun _ _ _ h => h) (Or.inl ⟨by rfl, ?y4_3_4⟩) (fun _ => hS) ?_
      case y4_3_4 => (intro w hSw; go_simp; try with_reducible rfl)
      try simp only [Act.put, List.setIfInBounds_toArray, List.set_cons_zero, List.set_cons_succ]
      refine wpAnyT_pure (i := 4) (oi := { dst := some 16, op := Op.indexAddr 28 (Operand.tmp 13) (Operand.tmp 15), type := 0, pos := "iface.go:100", after := #[⟨1, .data⟩, ⟨3, .data⟩], guard := none }) (v := ?v4_4_5) rfl (by kernel_rfl) (fun _ _ _ h => h) (Or.inl ⟨by rfl, ?y4_4_5⟩) (fun _ => hS) ?_
      case y4_4_5 => (intro w hSw; go_simp; try with_reducible rfl)
      try simp only [Act.put, List.setIfInBounds_toArray, List.set_cons_zero, List.set_cons_succ]
      refine wpAnyT_take (i := 5) (oi := { dst := some 17, op := Op.load 74 (Operand.tmp 16), type := 74, pos := "iface.go:100", after := #[⟨4, .data⟩], guard := none }) (v := ?v4_5_6) rfl (by kernel_rfl) (fun _ _ _ h => h) (Or.inl ⟨by rfl, ?y4_5_6⟩) hS ?_
      case y4_5_6 => (intro w hSw; (try dsimp only at hSw); go_simp; try with_reducible rfl)
      try simp only [Act.put, List.setIfInBounds_toArray, List.set_cons_zero, List.set_cons_succ]
      refine wpAnyT_pure (i := 6) (oi := { dst := some 18, op := Op.move (Operand.tmp 0), type := 28, pos := "iface.go:100", after := #[], guard := none }) (v := ?v4_6_7) rfl (by kernel_rfl) (fun _ _ _ h => h) (Or.inl ⟨by rfl, ?y4_6_7⟩) (fun _ => hS) ?_
      case y4_6_7 => (intro w hSw; go_simp; try with_reducible rfl)
      try simp only [Act.put, List.setIfInBounds_toArray, List.set_cons_zero, List.set_cons_succ]
      refine wpAnyT_pure (i := 7) (oi := { dst := some 19, op := Op.move (Operand.tmp 5), type := 3, pos := "iface.go:100", after := #[], guard := none }) (v := ?v4_7_8) rfl (by kernel_rfl) (fun _ _ _ h => h) (Or.inl ⟨by rfl, ?y4_7_8⟩) (fun _ => hS) ?_
      case y4_7_8 => (intro w hSw; go_simp; try with_reducible rfl)
      try simp only [Act.put, List.setIfInBounds_toArray, List.set_cons_zero, List.set_cons_succ]
      refine wpAnyT_pure (i := 8) (oi := { dst := some 20, op := Op.indexAddr 28 (Operand.tmp 18) (Operand.tmp 19), type := 0, pos := "iface.go:100", after := #[⟨6, .data⟩, ⟨7, .data⟩], guard := none }) (v := ?v4_8_9) rfl (by kernel_rfl) (fun _ _ _ h => h) (Or.inl ⟨by rfl, ?y4_8_9⟩) (fun _ => hS) ?_
      case y4_8_9 => (intro w hSw; go_simp; try with_reducible rfl)
      try simp only [Act.put, List.setIfInBounds_toArray, List.set_cons_zero, List.set_cons_succ]
      refine wpAnyT_take (i := 9) (oi := { dst := some 21, op := Op.load 74 (Operand.tmp 20), type := 74, pos := "iface.go:100", after := #[⟨8, .data⟩], guard := none }) (v := ?v4_9_10) rfl (by kernel_rfl) (fun _ _ _ h => h) (Or.inl ⟨by rfl, ?y4_9_10⟩) hS ?_
      case y4_9_10 => (intro w hSw; (try dsimp only at hSw); go_simp; try with_reducible rfl)
      try simp only [Act.put, List.setIfInBounds_toArray, List.set_cons_zero, List.set_cons_succ]
      refine wpAnyT_ready (rs := [10]) (by kernel_rfl) rfl ?_
      refine AllT.cons (o := { dst := some 22, op := Op.call { callee := Callee.value (Operand.tmp 12), args := #[Operand.tmp 17, Operand.tmp 21], argTypes := #[74, 74] }, type := 3, pos := "iface.go:100", after := #[⟨0, .data⟩, ⟨5, .data⟩, ⟨9, .data⟩], guard := none }) rfl (fun K hK => ?_) ?_
      · (go_simp; refine (HCl.out _ (by repeat (first | (with_reducible exact Below.refl _ _) | (with_reducible assumption) | (with_reducible refine Below.drew ?_) | (with_reducible refine Below.drewN ?_ _)))).mono ?_; rintro e wq ⟨rfl, hbq⟩; go_wp2_with fail; have hbQ := Below.trans (show Below wr.heap.size wr _ from (by repeat (first | (with_reducible exact Below.refl _ _) | (with_reducible assumption) | (with_reducible refine Below.drew ?_) | (with_reducible refine Below.drewN ?_ _)))) (hbq.mono (Below.size (show Below wr.heap.size wr _ from (by repeat (first | (with_reducible exact Below.refl _ _) | (with_reducible assumption) | (with_reducible refine Below.drew ?_) | (with_reducible refine Below.drewN ?_ _)))))))
        refine hK.out _ _ (fun _ => ?_) (fun hE => ?_)
        · first | exact hQ.out _ hbQ | exact hQ.out _ (by repeat (first | (with_reducible exact Below.refl _ _) | (with_reducible assumption) | (with_reducible refine Below.drew ?_) | (with_reducible refine Below.drewN ?_ _)))
        have hS := hE (by kernel_rfl)
        clear hK K hE
        try simp only [Act.put, List.setIfInBounds_toArray, List.set_cons_zero, List.set_cons_succ]
        refine wpAnyT_pure (i := 11) (oi := { dst := some 23, op := Op.binOp BinOp.geq 3 (Operand.tmp 22) (Operand.const (Value.int IntKind.i64 0)) 3, type := 4, pos := "iface.go:100", after := #[⟨10, .data⟩], guard := none }) (v := ?v4_11_11) rfl (by kernel_rfl) (fun _ _ _ h => h) (Or.inl ⟨by rfl, ?y4_11_11⟩) (fun _ => hS) ?_
        case y4_11_11 => (intro w hSw; go_simp; try with_reducible rfl)
        try simp only [Act.put, List.setIfInBounds_toArray, List.set_cons_zero, List.set_cons_succ]
        refine wpAnyT_done (by kernel_rfl) ?_ _
        refine NoPanic.normal ?_
        have HBQ := Lib.hid (HB.out.trans (hbQ.mono HB.out.size))
        clear hbQ hbq
        by_cases hcc : 0 ≤ c x y
        · have hst := HSt.out
          rw [if_pos hcc] at hst
          have HE := Lib.hid (hno.out.trans hst)
          clear hst
          go_wp2_with fail
          go_ret
          exact ⟨ret_bool HE.out.symm, HBQ.out⟩
        · have hst := HSt.out
          rw [if_neg hcc] at hst
          have HE := Lib.hid (hno.out.trans hst)
          clear hst
          go_wp2_with fail
          go_roundw
          case rel => exact ⟨j + 1, by go_num, by omega, HBQ.out, HE.out⟩
          case measure => simp [intOf]; omega
      exact AllT.nil
    · have HE := Lib.hid (hno.out.trans (incr_end c l j (by omega)))
      have HB := Lib.hid hb
      have k1 : ¬ (j : Int) + 1 < (l.length : Int) := by omega
      clear hno hb
      go_wp2_with fail
      go_ret
      exact ⟨ret_bool HE.out.symm, HB.out⟩
set_option maxRecDepth 100000 in
set_option maxHeartbeats 8000000 in
theorem sortedInstSig_any (l : List InstSig) (v : Value) (F : Nat → Prop) (w : World) (hv : Sl w F InstSig.d l v) (m : FuncId) (c : InstSig → InstSig → Int) (eg : Enters Tryd.prog m)
    (hc : ∀ i j (hi : i < l.length) (hj : j < l.length) cs ds w1, Below w.heap.size w w1 → Rp w1 F (InstSig.d l[i]) cs → Rp w1 F (InstSig.d l[j]) ds → Calls Tryd.prog m #[.agg cs.toArray, .agg ds.toArray] w1 fun e w' => e = .returned (.int .i64 (c l[i] l[j])) ∧ Below w1.heap.size w1 w') :
    Calls Tryd.prog 75 #[v, .func (.func m) #[] #[]] w fun e w' => e = .returned (.bool (incr c l)) ∧ Below w.heap.size w w' := by
  obtain ⟨A, c0, rfl, hlc, hcm, _⟩ := hv.form
  have hl : l.length ≤ 9223372036854775807 := by unfold maxLen at hcm; omega
  have HC := Lib.hid hc
  have HV := Lib.hid hv
  clear hc hv hlc hcm
  unfold Enters at eg
  go_enter Tryd.func75, Tryd.ntmps75
  go_wp2_with fail
  go_loopw [5] (fun i wr => ∃ k : Nat, .int .i64 ((k + 1 : Nat) : Int) = i ∧ k ≤ l.length ∧ Below w.heap.size w wr ∧ Hid (incr c l = incr c (l.drop k))) (fun i _ => l.length + 1 - (intOf i).toNat)
  case atStart => exact ⟨0, rfl, Nat.zero_le _, Below.refl _ _, rfl⟩
  case round =>
    obtain ⟨j, rfl, hjl, hb, hno⟩ := hrel
    by_cases hlt : j + 1 < l.length
    · have hv' := HV.out.later hb
      obtain ⟨ga, oa, va1, va2, hA, hga, a0, a1, a2, a3, a4, a5, sa0, sa1, sa2⟩ := InstSig.get hv' (show j < l.length by omega)
      obtain ⟨gb, ob, vb1, vb2, hB, hgb, b0, b1, b2, b3, b4, b5, sb0, sb1, sb2⟩ := InstSig.get hv' hlt
      have hst := incr_step c l j hlt
      have HCC := HC.out j (j + 1) (by omega) hlt
      obtain ⟨x, hx⟩ : ∃ x, l[j] = x := ⟨_, rfl⟩
      obtain ⟨y, hy⟩ : ∃ y, l[j + 1] = y := ⟨_, rfl⟩
      rw [hx] at a0 a1 a2 a3 sa0 sa1 sa2 hst
      rw [hy] at b0 b1 b2 b3 sb0 sb1 sb2 hst
      rw [hx, hy] at HCC
      obtain ⟨Aa1, qa1, rfl, -, -, -⟩ := sa1.form
      obtain ⟨Aa2, qa2, rfl, -, -, -⟩ := sa2.form
      obtain ⟨Ab1, qb1, rfl, -, -, -⟩ := sb1.form
      obtain ⟨Ab2, qb2, rfl, -, -, -⟩ := sb2.form
      rw [hA] at hB
      cases hB
      subst hA
      have hRa : Rp wr F (InstSig.d x) [.string x.cls, .int .i64 x.head.kind, .string x.head.name, .int .i64 x.head.var, .slice Aa1 x.head.args.length qa1, .slice Aa2 x.preds.length qa2] := InstSig.rp.2 ⟨_, _, rfl, sa0, sa1, sa2⟩
      have hRb : Rp wr F (InstSig.d y) [.string y.cls, .int .i64 y.head.kind, .string y.head.name, .int .i64 y.head.var, .slice Ab1 y.head.args.length qb1, .slice Ab2 y.preds.length qb2] := InstSig.rp.2 ⟨_, _, rfl, sb0, sb1, sb2⟩
      have HCl : Hid (∀ X, Below wr.heap.size wr X → Calls Tryd.prog m #[.agg #[.string x.cls, .int .i64 x.head.kind, .string x.head.name, .int .i64 x.head.var, .slice Aa1 x.head.args.length qa1, .slice Aa2 x.preds.length qa2], .agg #[.string y.cls, .int .i64 y.head.kind, .string y.head.name, .int .i64 y.head.var, .slice Ab1 y.head.args.length qb1, .slice Ab2 y.preds.length qb2]] X fun e w' => e = .returned (.int .i64 (c x y)) ∧ Below X.heap.size X w') := fun X hX => HCC [.string x.cls, .int .i64 x.head.kind, .string x.head.name, .int .i64 x.head.var, .slice Aa1 x.head.args.length qa1, .slice Aa2 x.preds.length qa2] [.string y.cls, .int .i64 y.head.kind, .string y.head.name, .int .i64 y.head.var, .slice Ab1 y.head.args.length qb1, .slice Ab2 y.preds.length qb2] X (hb.trans (hX.mono hb.size)) (hRa.later hX) (hRb.later hX)
      have hQ : Hid (∀ X, Below wr.heap.size wr X → (X.cell? ⟨ga, oa + (j * 6), none⟩ = some (.string x.cls) ∧ X.cell? ⟨ga, oa + (j * 6) + 1, none⟩ = some (.int .i64 x.head.kind) ∧ X.cell? ⟨ga, oa + (j * 6) + 2, none⟩ = some (.string x.head.name) ∧ X.cell? ⟨ga, oa + (j * 6) + 3, none⟩ = some (.int .i64 x.head.var) ∧ X.cell? ⟨ga, oa + (j * 6) + 4, none⟩ = some (.slice Aa1 x.head.args.length qa1) ∧ X.cell? ⟨ga, oa + (j * 6) + 5, none⟩ = some (.slice Aa2 x.preds.length qa2) ∧ X.cell? ⟨ga, oa + ((j + 1) * 6), none⟩ = some (.string y.cls) ∧ X.cell? ⟨ga, oa + ((j + 1) * 6) + 1, none⟩ = some (.int .i64 y.head.kind) ∧ X.cell? ⟨ga, oa + ((j + 1) * 6) + 2, none⟩ = some (.string y.head.name) ∧ X.cell? ⟨ga, oa + ((j + 1) * 6) + 3, none⟩ = some (.int .i64 y.head.var) ∧ X.cell? ⟨ga, oa + ((j + 1) * 6) + 4, none⟩ = some (.slice Ab1 y.head.args.length qb1) ∧ X.cell? ⟨ga, oa + ((j + 1) * 6) + 5, none⟩ = some (.slice Ab2 y.preds.length qb2))) := fun X hX => ⟨(hX.cell (block_lt_of_cell a0)).trans a0, (hX.cell (block_lt_of_cell a1)).trans a1, (hX.cell (block_lt_of_cell a2)).trans a2, (hX.cell (block_lt_of_cell a3)).trans a3, (hX.cell (block_lt_of_cell a4)).trans a4, (hX.cell (block_lt_of_cell a5)).trans a5, (hX.cell (block_lt_of_cell b0)).trans b0, (hX.cell (block_lt_of_cell b1)).trans b1, (hX.cell (block_lt_of_cell b2)).trans b2, (hX.cell (block_lt_of_cell b3)).trans b3, (hX.cell (block_lt_of_cell b4)).trans b4, (hX.cell (block_lt_of_cell b5)).trans b5⟩
      have k0 : (0 : Int) ≤ (j : Int) := by omega
      have k1 : (j : Int) + 1 < (l.length : Int) := by omega
      have k2 : (j : Int) < (l.length : Int) := by omega
      have k3 : IntKind.i64.wrap (j : Int) = (j : Int) := by rw [IntKind.wrap_i64]; omega
      have k4 : ((j : Int) + 1).toNat = j + 1 := by omega
      have k5 : (0 : Int) ≤ (j : Int) + 1 := by omega
      have HB := Lib.hid hb
      have hq := (hQ.out wr (Below.refl _ _))
      clear HCC hRa hRb hx hy a0 b0 a1 b1 a2 b2 a3 b3 a4 b4 a5 b5 sa0 sa1 sa2 sb0 sb1 sb2 hga hgb hv' hb
      have HSt := Lib.hid hst
      clear hst hq
      go_upto_region 4 with (fail)
      refine wp_region_noPanic ?_
      refine wp_region_till [] (fun X => X.cell? ⟨ga, oa + (j * 6), none⟩ = some (.string x.cls) ∧ X.cell? ⟨ga, oa + (j * 6) + 1, none⟩ = some (.int .i64 x.head.kind) ∧ X.cell? ⟨ga, oa + (j * 6) + 2, none⟩ = some (.string x.head.name) ∧ X.cell? ⟨ga, oa + (j * 6) + 3, none⟩ = some (.int .i64 x.head.var) ∧ X.cell? ⟨ga, oa + (j * 6) + 4, none⟩ = some (.slice Aa1 x.head.args.length qa1) ∧ X.cell? ⟨ga, oa + (j * 6) + 5, none⟩ = some (.slice Aa2 x.preds.length qa2) ∧ X.cell? ⟨ga, oa + ((j + 1) * 6), none⟩ = some (.string y.cls) ∧ X.cell? ⟨ga, oa + ((j + 1) * 6) + 1, none⟩ = some (.int .i64 y.head.kind) ∧ X.cell? ⟨ga, oa + ((j + 1) * 6) + 2, none⟩ = some (.string y.head.name) ∧ X.cell? ⟨ga, oa + ((j + 1) * 6) + 3, none⟩ = some (.int .i64 y.head.var) ∧ X.cell? ⟨ga, oa + ((j + 1) * 6) + 4, none⟩ = some (.slice Ab1 y.head.args.length qb1) ∧ X.cell? ⟨ga, oa + ((j + 1) * 6) + 5, none⟩ = some (.slice Ab2 y.preds.length qb2)) (by kernel_rfl) ?_ (fun hE => ?_)
      · first | exact hQ.out _ hbQ | exact hQ.out _ (by repeat (first | (with_reducible exact Below.refl _ _) | (with_reducible assumption) | (with_reducible refine Below.drew ?_) | (with_reducible refine Below.drewN ?_ _)))
      have hS := hE (by kernel_rfl)
      refine wpAnyT_pure (i := 0) (oi := { dst := some 12, op := Op.move (Operand.tmp 1), type := 139, pos := "iface.go:100", after := #[], guard := none }) (v := ?v4_0_1) rfl (by kernel_rfl) (fun _ _ _ h => h) (Or.inl ⟨by rfl, ?y4_0_1⟩) (fun _ => hS) ?_
      case y4_0_1 => (intro w hSw; go_simp; try with_reducible rfl)
      try simp only [Act.put, List.setIfInBounds_toArray, List.set_cons_zero, List.set_cons_succ]
      refine wpAnyT_pure (i := 1) (oi := { dst := some 13, op := Op.move (Operand.tmp 0), type := 29, pos := "iface.go:100", after := #[], guard := none }) (v := ?v4_1_2) rfl (by kernel_rfl) (fun _ _ _ h => h) (Or.inl ⟨by rfl, ?y4_1_2⟩) (fun _ => hS) ?_
      case y4_1_2 => (intro w hSw; go_simp; try with_reducible rfl)
      try simp only [Act.put, List.setIfInBounds_toArray, List.set_cons_zero, List.set_cons_succ]
      refine wpAnyT_pure (i := 2) (oi := { dst := some 14, op := Op.move (Operand.tmp 5), type := 3, pos := "iface.go:100", after := #[], guard := none }) (v := ?v4_2_3) rfl (by kernel_rfl) (fun _ _ _ h => h) (Or.inl ⟨by rfl, ?y4_2_3⟩) (fun _ => hS) ?_
      case y4_2_3 => (intro w hSw; go_simp; try with_reducible rfl)
      try simp only [Act.put, List.setIfInBounds_toArray, List.set_cons_zero, List.set_cons_succ]
      refine wpAnyT_pure (i := 3) (oi := { dst := some 15, op := Op.binOp BinOp.sub 3 (Operand.tmp 14) (Operand.const (Value.int IntKind.i64 1)) 3, type := 3, pos := "iface.go:100", after := #[⟨2, .data⟩], guard := none }) (v := ?v4_3_4) rfl (by kernel_rfl) (fun _ _ _ h => h) (Or.inl ⟨by rfl, ?y4_3_4⟩) (fun _ => hS) ?_
      case y4_3_4 => (intro w hSw; go_simp; try with_reducible rfl)
      try simp only [Act.put, List.setIfInBounds_toArray, List.set_cons_zero, List.set_cons_succ]
      refine wpAnyT_pure (i := 4) (oi := { dst := some 16, op := Op.indexAddr 29 (Operand.tmp 13) (Operand.tmp 15), type := 0, pos := "iface.go:100", after := #[⟨1, .data⟩, ⟨3, .data⟩], guard := none }) (v := ?v4_4_5) rfl (by kernel_rfl) (fun _ _ _ h => h) (Or.inl ⟨by rfl, ?y4_4_5⟩) (fun _ => hS) ?_
      case y4_4_5 => (intro w hSw; go_simp; try with_reducible rfl)
      try simp only [Act.put, List.setIfInBounds_toArray, List.set_cons_zero, List.set_cons_succ]
      refine wpAnyT_take (i := 5) (oi := { dst := some 17, op := Op.load 78 (Operand.tmp 16), type := 78, pos := "iface.go:100", after := #[⟨4, .data⟩], guard := none }) (v := ?v4_5_6) rfl (by kernel_rfl) (fun _ _ _ h => h) (Or.inl ⟨by rfl, ?y4_5_6⟩) hS ?_
      case y4_5_6 => (intro w hSw; (try dsimp only at hSw); go_simp; try with_reducible rfl)
      try simp only [Act.put, List.setIfInBounds_toArray, List.set_cons_zero, List.set_cons_succ]
      refine wpAnyT_pure (i := 6) (oi := { dst := some 18, op := Op.move (Operand.tmp 0), type := 29, pos := "iface.go:100", after := #[], guard := none }) (v := ?v4_6_7) rfl (by kernel_rfl) (fun _ _ _ h => h) (Or.inl ⟨by rfl, ?y4_6_7⟩) (fun _ => hS) ?_
      case y4_6_7 => (intro w hSw; go_simp; try with_reducible rfl)
      try simp only [Act.put, List.setIfInBounds_toArray, List.set_cons_zero, List.set_cons_succ]
      refine wpAnyT_pure (i := 7) (oi := { dst := some 19, op := Op.move (Operand.tmp 5), type := 3, pos := "iface.go:100", after := #[], guard := none }) (v := ?v4_7_8) rfl (by kernel_rfl) (fun _ _ _ h => h) (Or.inl ⟨by rfl, ?y4_7_8⟩) (fun _ => hS) ?_
      case y4_7_8 => (intro w hSw; go_simp; try with_reducible rfl)
      try simp only [Act.put, List.setIfInBounds_toArray, List.set_cons_zero, List.set_cons_succ]
      refine wpAnyT_pure (i := 8) (oi := { dst := some 20, op := Op.indexAddr 29 (Operand.tmp 18) (Operand.tmp 19), type := 0, pos := "iface.go:100", after := #[⟨6, .data⟩, ⟨7, .data⟩], guard := none }) (v := ?v4_8_9) rfl (by kernel_rfl) (fun _ _ _ h => h) (Or.inl ⟨by rfl, ?y4_8_9⟩) (fun _ => hS) ?_
      case y4_8_9 => (intro w hSw; go_simp; try with_reducible rfl)
      try simp only [Act.put, List.setIfInBounds_toArray, List.set_cons_zero, List.set_cons_succ]
      refine wpAnyT_take (i := 9) (oi := { dst := some 21, op := Op.load 78 (Operand.tmp 20), type := 78, pos := "iface.go:100", after := #[⟨8, .data⟩], guard := none }) (v := ?v4_9_10) rfl (by kernel_rfl) (fun _ _ _ h => h) (Or.inl ⟨by rfl, ?y4_9_10⟩) hS ?_
      case y4_9_10 => (intro w hSw; (try dsimp only at hSw); go_simp; try with_reducible rfl)
      try simp only [Act.put, List.setIfInBounds_toArray, List.set_cons_zero, List.set_cons_succ]
      refine wpAnyT_ready (rs := [10]) (by kernel_rfl) rfl ?_
      refine AllT.cons (o := { dst := some 22, op := Op.call { callee := Callee.value (Operand.tmp 12), args := #[Operand.tmp 17, Operand.tmp 21], argTypes := #[78, 78] }, type := 3, pos := "iface.go:100", after := #[⟨0, .data⟩, ⟨5, .data⟩, ⟨9, .data⟩], guard := none }) rfl (fun K hK => ?_) ?_
      · (go_simp; refine (HCl.out _ (by repeat (first | (with_reducible exact Below.refl _ _) | (with_reducible assumption) | (with_reducible refine Below.drew ?_) | (with_reducible refine Below.drewN ?_ _)))).mono ?_; rintro e wq ⟨rfl, hbq⟩; go_wp2_with fail; have hbQ := Below.trans (show Below wr.heap.size wr _ from (by repeat (first | (with_reducible exact Below.refl _ _) | (with_reducible assumption) | (with_reducible refine Below.drew ?_) | (with_reducible refine Below.drewN ?_ _)))) (hbq.mono (Below.size (show Below wr.heap.size wr _ from (by repeat (first | (with_reducible exact Below.refl _ _) | (with_reducible assumption) | (with_reducible refine Below.drew ?_) | (with_reducible refine Below.drewN ?_ _)))))))
        refine hK.out _ _ (fun _ => ?_) (fun hE => ?_)
        · first | exact hQ.out _ hbQ | exact hQ.out _ (by repeat (first | (with_reducible exact Below.refl _ _) | (with_reducible assumption) | (with_reducible refine Below.drew ?_) | (with_reducible refine Below.drewN ?_ _)))
        have hS := hE (by kernel_rfl)
        clear hK K hE
        try simp only [Act.put, List.setIfInBounds_toArray, List.set_cons_zero, List.set_cons_succ]
        refine wpAnyT_pure (i := 11) (oi := { dst := some 23, op := Op.binOp BinOp.geq 3 (Operand.tmp 22) (Operand.const (Value.int IntKind.i64 0)) 3, type := 4, pos := "iface.go:100", after := #[⟨10, .data⟩], guard := none }) (v := ?v4_11_11) rfl (by kernel_rfl) (fun _ _ _ h => h) (Or.inl ⟨by rfl, ?y4_11_11⟩) (fun _ => hS) ?_
        case y4_11_11 => (intro w hSw; go_simp; try with_reducible rfl)
        try simp only [Act.put, List.setIfInBounds_toArray, List.set_cons_zero, List.set_cons_succ]
        refine wpAnyT_done (by kernel_rfl) ?_ _
        refine NoPanic.normal ?_
        have HBQ := Lib.hid (HB.out.trans (hbQ.mono HB.out.size))
        clear hbQ hbq
        by_cases hcc : 0 ≤ c x y
        · have hst := HSt.out
          rw [if_pos hcc] at hst
          have HE := Lib.hid (hno.out.trans hst)
          clear hst
          go_wp2_with fail
          go_ret
          exact ⟨ret_bool HE.out.symm, HBQ.out⟩
        · have hst := HSt.out
          rw [if_neg hcc] at hst
          have HE := Lib.hid (hno.out.trans hst)
          clear hst
          go_wp2_with fail
          go_roundw
          case rel => exact ⟨j + 1, by go_num, by omega, HBQ.out, HE.out⟩
          case measure => simp [intOf]; omega
      exact AllT.nil
    · have HE := Lib.hid (hno.out.trans (incr_end c l j (by omega)))
      have HB := Lib.hid hb
      have k1 : ¬ (j : Int) + 1 < (l.length : Int) := by omega
      clear hno hb
      go_wp2_with fail
      go_ret
      exact ⟨ret_bool HE.out.symm, HB.out⟩
set_option maxRecDepth 100000 in
set_option maxHeartbeats 8000000 in
theorem sortedOpSig_any (l : List OpSig) (v : Value) (F : Nat → Prop) (w : World) (hv : Sl w F OpSig.d l v) (m : FuncId) (c : OpSig → OpSig → Int) (eg : Enters Tryd.prog m)
    (hc : ∀ i j (hi : i < l.length) (hj : j < l.length) cs ds w1, Below w.heap.size w w1 → Rp w1 F (OpSig.d l[i]) cs → Rp w1 F (OpSig.d l[j]) ds → Calls Tryd.prog m #[.agg cs.toArray, .agg ds.toArray] w1 fun e w' => e = .returned (.int .i64 (c l[i] l[j])) ∧ Below w1.heap.size w1 w') :
    Calls Tryd.prog 78 #[v, .func (.func m) #[] #[]] w fun e w' => e = .returned (.bool (incr c l)) ∧ Below w.heap.size w w' := by
  obtain ⟨A, c0, rfl, hlc, hcm, _⟩ := hv.form
  have hl : l.length ≤ 9223372036854775807 := by unfold maxLen at hcm; omega
  have HC := Lib.hid hc
  have HV := Lib.hid hv
  clear hc hv hlc hcm
  unfold Enters at eg
  go_enter Tryd.func78, Tryd.ntmps78
  go_wp2_with fail
  go_loopw [5] (fun i wr => ∃ k : Nat, .int .i64 ((k + 1 : Nat) : Int) = i ∧ k ≤ l.length ∧ Below w.heap.size w wr ∧ Hid (incr c l = incr c (l.drop k))) (fun i _ => l.length + 1 - (intOf i).toNat)
  case atStart => exact ⟨0, rfl, Nat.zero_le _, Below.refl _ _, rfl⟩
  case round =>
    obtain ⟨j, rfl, hjl, hb, hno⟩ := hrel
    by_cases hlt : j + 1 < l.length
    · have hv' := HV.out.later hb
      obtain ⟨ga, oa, va2, va3, hA, hga, a0, a1, a2, a3, a4, a5, a6, a7, a8, a9, sa0, sa1, sa2, sa3⟩ := OpSig.get hv' (show j < l.length by omega)
      obtain ⟨gb, ob, vb2, vb3, hB, hgb, b0, b1, b2, b3, b4, b5, b6, b7, b8, b9, sb0, sb1, sb2, sb3⟩ := OpSig.get hv' hlt
      have hst := incr_step c l j hlt
      have HCC := HC.out j (j + 1) (by omega) hlt
      obtain ⟨x, hx⟩ : ∃ x, l[j] = x := ⟨_, rfl⟩
      obtain ⟨y, hy⟩ : ∃ y, l[j + 1] = y := ⟨_, rfl⟩
      rw [hx] at a0 a1 a2 a3 a4 a6 a7 a8 sa0 sa1 sa2 sa3 hst
      rw [hy] at b0 b1 b2 b3 b4 b6 b7 b8 sb0 sb1 sb2 sb3 hst
      rw [hx, hy] at HCC
      obtain ⟨Aa2, qa2, rfl, -, -, -⟩ := sa2.form
      obtain ⟨Aa3, qa3, rfl, -, -, -⟩ := sa3.form
      obtain ⟨Ab2, qb2, rfl, -, -, -⟩ := sb2.form
      obtain ⟨Ab3, qb3, rfl, -, -, -⟩ := sb3.form
      rw [hA] at hB
      cases hB
      subst hA
      have hRa : Rp wr F (OpSig.d x) [.string x.name, .string x.effect, .int .i64 x.arg.kind, .string x.arg.name, .int .i64 x.arg.var, .slice Aa2 x.arg.args.length qa2, .int .i64 x.res.kind, .string x.res.name, .int .i64 x.res.var, .slice Aa3 x.res.args.length qa3] := OpSig.rp.2 ⟨_, _, rfl, sa0, sa1, sa2, sa3⟩
      have hRb : Rp wr F (OpSig.d y) [.string y.name, .string y.effect, .int .i64 y.arg.kind, .string y.arg.name, .int .i64 y.arg.var, .slice Ab2 y.arg.args.length qb2, .int .i64 y.res.kind, .string y.res.name, .int .i64 y.res.var, .slice Ab3 y.res.args.length qb3] := OpSig.rp.2 ⟨_, _, rfl, sb0, sb1, sb2, sb3⟩
      have HCl : Hid (∀ X, Below wr.heap.size wr X → Calls Tryd.prog m #[.agg #[.string x.name, .string x.effect, .int .i64 x.arg.kind, .string x.arg.name, .int .i64 x.arg.var, .slice Aa2 x.arg.args.length qa2, .int .i64 x.res.kind, .string x.res.name, .int .i64 x.res.var, .slice Aa3 x.res.args.length qa3], .agg #[.string y.name, .string y.effect, .int .i64 y.arg.kind, .string y.arg.name, .int .i64 y.arg.var, .slice Ab2 y.arg.args.length qb2, .int .i64 y.res.kind, .string y.res.name, .int .i64 y.res.var, .slice Ab3 y.res.args.length qb3]] X fun e w' => e = .returned (.int .i64 (c x y)) ∧ Below X.heap.size X w') := fun X hX => HCC [.string x.name, .string x.effect, .int .i64 x.arg.kind, .string x.arg.name, .int .i64 x.arg.var, .slice Aa2 x.arg.args.length qa2, .int .i64 x.res.kind, .string x.res.name, .int .i64 x.res.var, .slice Aa3 x.res.args.length qa3] [.string y.name, .string y.effect, .int .i64 y.arg.kind, .string y.arg.name, .int .i64 y.arg.var, .slice Ab2 y.arg.args.length qb2, .int .i64 y.res.kind, .string y.res.name, .int .i64 y.res.var, .slice Ab3 y.res.args.length qb3] X (hb.trans (hX.mono hb.size)) (hRa.later hX) (hRb.later hX)
      have hQ : Hid (∀ X, Below wr.heap.size wr X → (X.cell? ⟨ga, oa + (j * 10), none⟩ = some (.string x.name) ∧ X.cell? ⟨ga, oa + (j * 10) + 1, none⟩ = some (.string x.effect) ∧ X.cell? ⟨ga, oa + (j * 10) + 2, none⟩ = some (.int .i64 x.arg.kind) ∧ X.cell? ⟨ga, oa + (j * 10) + 3, none⟩ = some (.string x.arg.name) ∧ X.cell? ⟨ga, oa + (j * 10) + 4, none⟩ = some (.int .i64 x.arg.var) ∧ X.cell? ⟨ga, oa + (j * 10) + 5, none⟩ = some (.slice Aa2 x.arg.args.length qa2) ∧ X.cell? ⟨ga, oa + (j * 10) + 6, none⟩ = some (.int .i64 x.res.kind) ∧ X.cell? ⟨ga, oa + (j * 10) + 7, none⟩ = some (.string x.res.name) ∧ X.cell? ⟨ga, oa + (j * 10) + 8, none⟩ = some (.int .i64 x.res.var) ∧ X.cell? ⟨ga, oa + (j * 10) + 9, none⟩ = some (.slice Aa3 x.res.args.length qa3) ∧ X.cell? ⟨ga, oa + ((j + 1) * 10), none⟩ = some (.string y.name) ∧ X.cell? ⟨ga, oa + ((j + 1) * 10) + 1, none⟩ = some (.string y.effect) ∧ X.cell? ⟨ga, oa + ((j + 1) * 10) + 2, none⟩ = some (.int .i64 y.arg.kind) ∧ X.cell? ⟨ga, oa + ((j + 1) * 10) + 3, none⟩ = some (.string y.arg.name) ∧ X.cell? ⟨ga, oa + ((j + 1) * 10) + 4, none⟩ = some (.int .i64 y.arg.var) ∧ X.cell? ⟨ga, oa + ((j + 1) * 10) + 5, none⟩ = some (.slice Ab2 y.arg.args.length qb2) ∧ X.cell? ⟨ga, oa + ((j + 1) * 10) + 6, none⟩ = some (.int .i64 y.res.kind) ∧ X.cell? ⟨ga, oa + ((j + 1) * 10) + 7, none⟩ = some (.string y.res.name) ∧ X.cell? ⟨ga, oa + ((j + 1) * 10) + 8, none⟩ = some (.int .i64 y.res.var) ∧ X.cell? ⟨ga, oa + ((j + 1) * 10) + 9, none⟩ = some (.slice Ab3 y.res.args.length qb3))) := fun X hX => ⟨(hX.cell (block_lt_of_cell a0)).trans a0, (hX.cell (block_lt_of_cell a1)).trans a1, (hX.cell (block_lt_of_cell a2)).trans a2, (hX.cell (block_lt_of_cell a3)).trans a3, (hX.cell (block_lt_of_cell a4)).trans a4, (hX.cell (block_lt_of_cell a5)).trans a5, (hX.cell (block_lt_of_cell a6)).trans a6, (hX.cell (block_lt_of_cell a7)).trans a7, (hX.cell (block_lt_of_cell a8)).trans a8, (hX.cell (block_lt_of_cell a9)).trans a9, (hX.cell (block_lt_of_cell b0)).trans b0, (hX.cell (block_lt_of_cell b1)).trans b1, (hX.cell (block_lt_of_cell b2)).trans b2, (hX.cell (block_lt_of_cell b3)).trans b3, (hX.cell (block_lt_of_cell b4)).trans b4, (hX.cell (block_lt_of_cell b5)).trans b5, (hX.cell (block_lt_of_cell b6)).trans b6, (hX.cell (block_lt_of_cell b7)).trans b7, (hX.cell (block_lt_of_cell b8)).trans b8, (hX.cell (block_lt_of_cell b9)).trans b9⟩
      have k0 : (0 : Int) ≤ (j : Int) := by omega
      have k1 : (j : Int) + 1 < (l.length : Int) := by omega
      have k2 : (j : Int) < (l.length : Int) := by omega
      have k3 : IntKind.i64.wrap (j : Int) = (j : Int) := by rw [IntKind.wrap_i64]; omega
      have k4 : ((j : Int) + 1).toNat = j + 1 := by omega
      have k5 : (0 : Int) ≤ (j : Int) + 1 := by omega
      have HB := Lib.hid hb
      have hq := (hQ.out wr (Below.refl _ _))
      clear HCC hRa hRb hx hy a0 b0 a1 b1 a2 b2 a3 b3 a4 b4 a5 b5 a6 b6 a7 b7 a8 b8 a9 b9 sa0 sa1 sa2 sa3 sb0 sb1 sb2 sb3 hga hgb hv' hb
      have HSt := Lib.hid hst
      clear hst hq
      go_upto_region 4 with (fail)
      refine wp_region_noPanic ?_
      refine wp_region_till [] (fun X => X.cell? ⟨ga, oa + (j * 10), none⟩ = some (.string x.name) ∧ X.cell? ⟨ga, oa + (j * 10) + 1, none⟩ = some (.string x.effect) ∧ X.cell? ⟨ga, oa + (j * 10) + 2, none⟩ = some (.int .i64 x.arg.kind) ∧ X.cell? ⟨ga, oa + (j * 10) + 3, none⟩ = some (.string x.arg.name) ∧ X.cell? ⟨ga, oa + (j * 10) + 4, none⟩ = some (.int .i64 x.arg.var) ∧ X.cell? ⟨ga, oa + (j * 10) + 5, none⟩ = some (.slice Aa2 x.arg.args.length qa2) ∧ X.cell? ⟨ga, oa + (j * 10) + 6, none⟩ = some (.int .i64 x.res.kind) ∧ X.cell? ⟨ga, oa + (j * 10) + 7, none⟩ = some (.string x.res.name) ∧ X.cell? ⟨ga, oa + (j * 10) + 8, none⟩ = some (.int .i64 x.res.var) ∧ X.cell? ⟨ga, oa + (j * 10) + 9, none⟩ = some (.slice Aa3 x.res.args.length qa3) ∧ X.cell? ⟨ga, oa + ((j + 1) * 10), none⟩ = some (.string y.name) ∧ X.cell? ⟨ga, oa + ((j + 1) * 10) + 1, none⟩ = some (.string y.effect) ∧ X.cell? ⟨ga, oa + ((j + 1) * 10) + 2, none⟩ = some (.int .i64 y.arg.kind) ∧ X.cell? ⟨ga, oa + ((j + 1) * 10) + 3, none⟩ = some (.string y.arg.name) ∧ X.cell? ⟨ga, oa + ((j + 1) * 10) + 4, none⟩ = some (.int .i64 y.arg.var) ∧ X.cell? ⟨ga, oa + ((j + 1) * 10) + 5, none⟩ = some (.slice Ab2 y.arg.args.length qb2) ∧ X.cell? ⟨ga, oa + ((j + 1) * 10) + 6, none⟩ = some (.int .i64 y.res.kind) ∧ X.cell? ⟨ga, oa + ((j + 1) * 10) + 7, none⟩ = some (.string y.res.name) ∧ X.cell? ⟨ga, oa + ((j + 1) * 10) + 8, none⟩ = some (.int .i64 y.res.var) ∧ X.cell? ⟨ga, oa + ((j + 1) * 10) + 9, none⟩ = some (.slice Ab3 y.res.args.length qb3)) (by kernel_rfl) ?_ (fun hE => ?_)
      · first | exact hQ.out _ hbQ | exact hQ.out _ (by repeat (first | (with_reducible exact Below.refl _ _) | (with_reducible assumption) | (with_reducible refine Below.drew ?_) | (with_reducible refine Below.drewN ?_ _)))
      have hS := hE (by kernel_rfl)
      refine wpAnyT_pure (i := 0) (oi := { dst := some 12, op := Op.move (Operand.tmp 1), type := 141, pos := "iface.go:100", after := #[], guard := none }) (v := ?v4_0_1) rfl (by kernel_rfl) (fun _ _ _ h => h) (Or.inl ⟨by rfl, ?y4_0_1⟩) (fun _ => hS) ?_
      case y4_0_1 => (intro w hSw; go_simp; try with_reducible rfl)
      try simp only [Act.put, List.setIfInBounds_toArray, List.set_cons_zero, List.set_cons_succ]
      refine wpAnyT_pure (i := 1) (oi := { dst := some 13, op := Op.move (Operand.tmp 0), type := 30, pos := "iface.go:100", after := #[], guard := none }) (v := ?v4_1_2) rfl (by kernel_rfl) (fun _ _ _ h => h) (Or.inl ⟨by rfl, ?y4_1_2⟩) (fun _ => hS) ?_
      case y4_1_2 => (intro w hSw; go_simp; try with_reducible rfl)
      try simp only [Act.put, List.setIfInBounds_toArray, List.set_cons_zero, List.set_cons_succ]
      refine wpAnyT_pure (i := 2) (oi := { dst := some 14, op := Op.move (Operand.tmp 5), type := 3, pos := "iface.go:100", after := #[], guard := none }) (v := ?v4_2_3) rfl (by kernel_rfl) (fun _ _ _ h => h) (Or.inl ⟨by rfl, ?y4_2_3⟩) (fun _ => hS) ?_
      case y4_2_3 => (intro w hSw; go_simp; try with_reducible rfl)
      try simp only [Act.put, List.setIfInBounds_toArray, List.set_cons_zero, List.set_cons_succ]
      refine wpAnyT_pure (i := 3) (oi := { dst := some 15, op := Op.binOp BinOp.sub 3 (Operand.tmp 14) (Operand.const (Value.int IntKind.i64 1)) 3, type := 3, pos := "iface.go:100", after := #[⟨2, .data⟩], guard := none }) (v := ?v4_3_4) rfl (by kernel_rfl) (fun _ _ _ h => h) (Or.inl ⟨by rfl, ?y4_3_4⟩) (fun _ => hS) ?_
      case y4_3_4 => (intro w hSw; go_simp; try with_reducible rfl)
      try simp only [Act.put, List.setIfInBounds_toArray, List.set_cons_zero, List.set_cons_succ]
      refine wpAnyT_pure (i := 4) (oi := { dst := some 16, op := Op.indexAddr 30 (Operand.tmp 13) (Operand.tmp 15), type := 0, pos := "iface.go:100", after := #[⟨1, .data⟩, ⟨3, .data⟩], guard := none }) (v := ?v4_4_5) rfl (by kernel_rfl) (fun _ _ _ h => h) (Or.inl ⟨by rfl, ?y4_4_5⟩) (fun _ => hS) ?_
      case y4_4_5 => (intro w hSw; go_simp; try with_reducible rfl)
      try simp only [Act.put, List.setIfInBounds_toArray, List.set_cons_zero, List.set_cons_succ]
      refine wpAnyT_take (i := 5) (oi := { dst := some 17, op := Op.load 82 (Operand.tmp 16), type := 82, pos := "iface.go:100", after := #[⟨4, .data⟩], guard := none }) (v := ?v4_5_6) rfl (by kernel_rfl) (fun _ _ _ h => h) (Or.inl ⟨by rfl, ?y4_5_6⟩) hS ?_
      case y4_5_6 => (intro w hSw; (try dsimp only at hSw); go_simp; try with_reducible rfl)
      try simp only [Act.put, List.setIfInBounds_toArray, List.set_cons_zero, List.set_cons_succ]
      refine wpAnyT_pure (i := 6) (oi := { dst := some 18, op := Op.move (Operand.tmp 0), type := 30, pos := "iface.go:100", after := #[], guard := none }) (v := ?v4_6_7) rfl (by kernel_rfl) (fun _ _ _ h => h) (Or.inl ⟨by rfl, ?y4_6_7⟩) (fun _ => hS) ?_
      case y4_6_7 => (intro w hSw; go_simp; try with_reducible rfl)
      try simp only [Act.put, List.setIfInBounds_toArray, List.set_cons_zero, List.set_cons_succ]
      refine wpAnyT_pure (i := 7) (oi := { dst := some 19, op := Op.move (Operand.tmp 5), type := 3, pos := "iface.go:100", after := #[], guard := none }) (v := ?v4_7_8) rfl (by kernel_rfl) (fun _ _ _ h => h) (Or.inl ⟨by rfl, ?y4_7_8⟩) (fun _ => hS) ?_
      case y4_7_8 => (intro w hSw; go_simp; try with_reducible rfl)
      try simp only [Act.put, List.setIfInBounds_toArray, List.set_cons_zero, List.set_cons_succ]
      refine wpAnyT_pure (i := 8) (oi := { dst := some 20, op := Op.indexAddr 30 (Operand.tmp 18) (Operand.tmp 19), type := 0, pos := "iface.go:100", after := #[⟨6, .data⟩, ⟨7, .data⟩], guard := none }) (v := ?v4_8_9) rfl (by kernel_rfl) (fun _ _ _ h => h) (Or.inl ⟨by rfl, ?y4_8_9⟩) (fun _ => hS) ?_
      case y4_8_9 => (intro w hSw; go_simp; try with_reducible rfl)
      try simp only [Act.put, List.setIfInBounds_toArray, List.set_cons_zero, List.set_cons_succ]
      refine wpAnyT_take (i := 9) (oi := { dst := some 21, op := Op.load 82 (Operand.tmp 20), type := 82, pos := "iface.go:100", after := #[⟨8, .data⟩], guard := none }) (v := ?v4_9_10) rfl (by kernel_rfl) (fun _ _ _ h => h) (Or.inl ⟨by rfl, ?y4_9_10⟩) hS ?_
      case y4_9_10 => (intro w hSw; (try dsimp only at hSw); go_simp; try with_reducible rfl)
      try simp only [Act.put, List.setIfInBounds_toArray, List.set_cons_zero, List.set_cons_succ]
      refine wpAnyT_ready (rs := [10]) (by kernel_rfl) rfl ?_
      refine AllT.cons (o := { dst := some 22, op := Op.call { callee := Callee.value (Operand.tmp 12), args := #[Operand.tmp 17, Operand.tmp 21], argTypes := #[82, 82] }, type := 3, pos := "iface.go:100", after := #[⟨0, .data⟩, ⟨5, .data⟩, ⟨9, .data⟩], guard := none }) rfl (fun K hK => ?_) ?_
      · (go_simp; refine (HCl.out _ (by repeat (first | (with_reducible exact Below.refl _ _) | (with_reducible assumption) | (with_reducible refine Below.drew ?_) | (with_reducible refine Below.drewN ?_ _)))).mono ?_; rintro e wq ⟨rfl, hbq⟩; go_wp2_with fail; have hbQ := Below.trans (show Below wr.heap.size wr _ from (by repeat (first | (with_reducible exact Below.refl _ _) | (with_reducible assumption) | (with_reducible refine Below.drew ?_) | (with_reducible refine Below.drewN ?_ _)))) (hbq.mono (Below.size (show Below wr.heap.size wr _ from (by repeat (first | (with_reducible exact Below.refl _ _) | (with_reducible assumption) | (with_reducible refine Below.drew ?_) | (with_reducible refine Below.drewN ?_ _)))))))
        refine hK.out _ _ (fun _ => ?_) (fun hE => ?_)
        · first | exact hQ.out _ hbQ | exact hQ.out _ (by repeat (first | (with_reducible exact Below.refl _ _) | (with_reducible assumption) | (with_reducible refine Below.drew ?_) | (with_reducible refine Below.drewN ?_ _)))
        have hS := hE (by kernel_rfl)
        clear hK K hE
        try simp only [Act.put, List.setIfInBounds_toArray, List.set_cons_zero, List.set_cons_succ]
        refine wpAnyT_pure (i := 11) (oi := { dst := some 23, op := Op.binOp BinOp.geq 3 (Operand.tmp 22) (Operand.const (Value.int IntKind.i64 0)) 3, type := 4, pos := "iface.go:100", after := #[⟨10, .data⟩], guard := none }) (v := ?v4_11_11) rfl (by kernel_rfl) (fun _ _ _ h => h) (Or.inl ⟨by rfl, ?y4_11_11⟩) (fun _ => hS) ?_
        case y4_11_11 => (intro w hSw; go_simp; try with_reducible rfl)
        try simp only [Act.put, List.setIfInBounds_toArray, List.set_cons_zero, List.set_cons_succ]
        refine wpAnyT_done (by kernel_rfl) ?_ _
        refine NoPanic.normal ?_
        have HBQ := Lib.hid (HB.out.trans (hbQ.mono HB.out.size))
        clear hbQ hbq
        by_cases hcc : 0 ≤ c x y
        · have hst := HSt.out
          rw [if_pos hcc] at hst
          have HE := Lib.hid (hno.out.trans hst)
          clear hst
          go_wp2_with fail
          go_ret
          exact ⟨ret_bool HE.out.symm, HBQ.out⟩
        · have hst := HSt.out
          rw [if_neg hcc] at hst
          have HE := Lib.hid (hno.out.trans hst)
          clear hst
          go_wp2_with fail
          go_roundw
          case rel => exact ⟨j + 1, by go_num, by omega, HBQ.out, HE.out⟩
          case measure => simp [intOf]; omega
      exact AllT.nil
    · have HE := Lib.hid (hno.out.trans (incr_end c l j (by omega)))
      have HB := Lib.hid hb
      have k1 : ¬ (j : Int) + 1 < (l.length : Int) := by omega
      clear hno hb
      go_wp2_with fail
      go_ret
      exact ⟨ret_bool HE.out.symm, HB.out⟩
set_option maxRecDepth 100000 in
set_option maxHeartbeats 8000000 in
theorem sortedValSig_any (l : List ValSig) (v : Value) (F : Nat → Prop) (w : World) (hv : Sl w F ValSig.d l v) (m : FuncId) (c : ValSig → ValSig → Int) (eg : Enters Tryd.prog m)
    (hc : ∀ i j (hi : i < l.length) (hj : j < l.length) cs ds w1, Below w.heap.size w w1 → Rp w1 F (ValSig.d l[i]) cs → Rp w1 F (ValSig.d l[j]) ds → Calls Tryd.prog m #[.agg cs.toArray, .agg ds.toArray] w1 fun e w' => e = .returned (.int .i64 (c l[i] l[j])) ∧ Below w1.heap.size w1 w') :
    Calls Tryd.prog 80 #[v, .func (.func m) #[] #[]] w fun e w' => e = .returned (.bool (incr c l)) ∧ Below w.heap.size w w' := by
  obtain ⟨A, c0, rfl, hlc, hcm, _⟩ := hv.form
  have hl : l.length ≤ 9223372036854775807 := by unfold maxLen at hcm; omega
  have HC := Lib.hid hc
  have HV := Lib.hid hv
  clear hc hv hlc hcm
  unfold Enters at eg
  go_enter Tryd.func80, Tryd.ntmps80
  go_wp2_with fail
  go_loopw [5] (fun i wr => ∃ k : Nat, .int .i64 ((k + 1 : Nat) : Int) = i ∧ k ≤ l.length ∧ Below w.heap.size w wr ∧ Hid (incr c l = incr c (l.drop k))) (fun i _ => l.length + 1 - (intOf i).toNat)
  case atStart => exact ⟨0, rfl, Nat.zero_le _, Below.refl _ _, rfl⟩
  case round =>
    obtain ⟨j, rfl, hjl, hb, hno⟩ := hrel
    by_cases hlt : j + 1 < l.length
    · have hv' := HV.out.later hb
      obtain ⟨ga, oa, va2, va3, hA, hga, a0, a1, a2, a3, a4, a5, a6, sa0, sa1, sa2, sa3⟩ := ValSig.get hv' (show j < l.length by omega)
      obtain ⟨gb, ob, vb2, vb3, hB, hgb, b0, b1, b2, b3, b4, b5, b6, sb0, sb1, sb2, sb3⟩ := ValSig.get hv' hlt
      have hst := incr_step c l j hlt
      have HCC := HC.out j (j + 1) (by omega) hlt
      obtain ⟨x, hx⟩ : ∃ x, l[j] = x := ⟨_, rfl⟩
      obtain ⟨y, hy⟩ : ∃ y, l[j + 1] = y := ⟨_, rfl⟩
      rw [hx] at a0 a1 a3 a4 a5 sa0 sa1 sa2 sa3 hst
      rw [hy] at b0 b1 b3 b4 b5 sb0 sb1 sb2 sb3 hst
      rw [hx, hy] at HCC
      obtain ⟨Aa2, qa2, rfl, -, -, -⟩ := sa2.form
      obtain ⟨Aa3, qa3, rfl, -, -, -⟩ := sa3.form
      obtain ⟨Ab2, qb2, rfl, -, -, -⟩ := sb2.form
      obtain ⟨Ab3, qb3, rfl, -, -, -⟩ := sb3.form
      rw [hA] at hB
      cases hB
      subst hA
      have hRa : Rp wr F (ValSig.d x) [.string x.name, .int .i64 x.vars, .slice Aa2 x.preds.length qa2, .int .i64 x.ty.kind, .string x.ty.name, .int .i64 x.ty.var, .slice Aa3 x.ty.args.length qa3] := ValSig.rp.2 ⟨_, _, rfl, sa0, sa1, sa2, sa3⟩
      have hRb : Rp wr F (ValSig.d y) [.string y.name, .int .i64 y.vars, .slice Ab2 y.preds.length qb2, .int .i64 y.ty.kind, .string y.ty.name, .int .i64 y.ty.var, .slice Ab3 y.ty.args.length qb3] := ValSig.rp.2 ⟨_, _, rfl, sb0, sb1, sb2, sb3⟩
      have HCl : Hid (∀ X, Below wr.heap.size wr X → Calls Tryd.prog m #[.agg #[.string x.name, .int .i64 x.vars, .slice Aa2 x.preds.length qa2, .int .i64 x.ty.kind, .string x.ty.name, .int .i64 x.ty.var, .slice Aa3 x.ty.args.length qa3], .agg #[.string y.name, .int .i64 y.vars, .slice Ab2 y.preds.length qb2, .int .i64 y.ty.kind, .string y.ty.name, .int .i64 y.ty.var, .slice Ab3 y.ty.args.length qb3]] X fun e w' => e = .returned (.int .i64 (c x y)) ∧ Below X.heap.size X w') := fun X hX => HCC [.string x.name, .int .i64 x.vars, .slice Aa2 x.preds.length qa2, .int .i64 x.ty.kind, .string x.ty.name, .int .i64 x.ty.var, .slice Aa3 x.ty.args.length qa3] [.string y.name, .int .i64 y.vars, .slice Ab2 y.preds.length qb2, .int .i64 y.ty.kind, .string y.ty.name, .int .i64 y.ty.var, .slice Ab3 y.ty.args.length qb3] X (hb.trans (hX.mono hb.size)) (hRa.later hX) (hRb.later hX)
      have hQ : Hid (∀ X, Below wr.heap.size wr X → (X.cell? ⟨ga, oa + (j * 7), none⟩ = some (.string x.name) ∧ X.cell? ⟨ga, oa + (j * 7) + 1, none⟩ = some (.int .i64 x.vars) ∧ X.cell? ⟨ga, oa + (j * 7) + 2, none⟩ = some (.slice Aa2 x.preds.length qa2) ∧ X.cell? ⟨ga, oa + (j * 7) + 3, none⟩ = some (.int .i64 x.ty.kind) ∧ X.cell? ⟨ga, oa + (j * 7) + 4, none⟩ = some (.string x.ty.name) ∧ X.cell? ⟨ga, oa + (j * 7) + 5, none⟩ = some (.int .i64 x.ty.var) ∧ X.cell? ⟨ga, oa + (j * 7) + 6, none⟩ = some (.slice Aa3 x.ty.args.length qa3) ∧ X.cell? ⟨ga, oa + ((j + 1) * 7), none⟩ = some (.string y.name) ∧ X.cell? ⟨ga, oa + ((j + 1) * 7) + 1, none⟩ = some (.int .i64 y.vars) ∧ X.cell? ⟨ga, oa + ((j + 1) * 7) + 2, none⟩ = some (.slice Ab2 y.preds.length qb2) ∧ X.cell? ⟨ga, oa + ((j + 1) * 7) + 3, none⟩ = some (.int .i64 y.ty.kind) ∧ X.cell? ⟨ga, oa + ((j + 1) * 7) + 4, none⟩ = some (.string y.ty.name) ∧ X.cell? ⟨ga, oa + ((j + 1) * 7) + 5, none⟩ = some (.int .i64 y.ty.var) ∧ X.cell? ⟨ga, oa + ((j + 1) * 7) + 6, none⟩ = some (.slice Ab3 y.ty.args.length qb3))) := fun X hX => ⟨(hX.cell (block_lt_of_cell a0)).trans a0, (hX.cell (block_lt_of_cell a1)).trans a1, (hX.cell (block_lt_of_cell a2)).trans a2, (hX.cell (block_lt_of_cell a3)).trans a3, (hX.cell (block_lt_of_cell a4)).trans a4, (hX.cell (block_lt_of_cell a5)).trans a5, (hX.cell (block_lt_of_cell a6)).trans a6, (hX.cell (block_lt_of_cell b0)).trans b0, (hX.cell (block_lt_of_cell b1)).trans b1, (hX.cell (block_lt_of_cell b2)).trans b2, (hX.cell (block_lt_of_cell b3)).trans b3, (hX.cell (block_lt_of_cell b4)).trans b4, (hX.cell (block_lt_of_cell b5)).trans b5, (hX.cell (block_lt_of_cell b6)).trans b6⟩
      have k0 : (0 : Int) ≤ (j : Int) := by omega
      have k1 : (j : Int) + 1 < (l.length : Int) := by omega
      have k2 : (j : Int) < (l.length : Int) := by omega
      have k3 : IntKind.i64.wrap (j : Int) = (j : Int) := by rw [IntKind.wrap_i64]; omega
      have k4 : ((j : Int) + 1).toNat = j + 1 := by omega
      have k5 : (0 : Int) ≤ (j : Int) + 1 := by omega
      have HB := Lib.hid hb
      have hq := (hQ.out wr (Below.refl _ _))
      clear HCC hRa hRb hx hy a0 b0 a1 b1 a2 b2 a3 b3 a4 b4 a5 b5 a6 b6 sa0 sa1 sa2 sa3 sb0 sb1 sb2 sb3 hga hgb hv' hb
      have HSt := Lib.hid hst
      clear hst hq
      go_upto_region 4 with (fail)
      refine wp_region_noPanic ?_
      refine wp_region_till [] (fun X => X.cell? ⟨ga, oa + (j * 7), none⟩ = some (.string x.name) ∧ X.cell? ⟨ga, oa + (j * 7) + 1, none⟩ = some (.int .i64 x.vars) ∧ X.cell? ⟨ga, oa + (j * 7) + 2, none⟩ = some (.slice Aa2 x.preds.length qa2) ∧ X.cell? ⟨ga, oa + (j * 7) + 3, none⟩ = some (.int .i64 x.ty.kind) ∧ X.cell? ⟨ga, oa + (j * 7) + 4, none⟩ = some (.string x.ty.name) ∧ X.cell? ⟨ga, oa + (j * 7) + 5, none⟩ = some (.int .i64 x.ty.var) ∧ X.cell? ⟨ga, oa + (j * 7) + 6, none⟩ = some (.slice Aa3 x.ty.args.length qa3) ∧ X.cell? ⟨ga, oa + ((j + 1) * 7), none⟩ = some (.string y.name) ∧ X.cell? ⟨ga, oa + ((j + 1) * 7) + 1, none⟩ = some (.int .i64 y.vars) ∧ X.cell? ⟨ga, oa + ((j + 1) * 7) + 2, none⟩ = some (.slice Ab2 y.preds.length qb2) ∧ X.cell? ⟨ga, oa + ((j + 1) * 7) + 3, none⟩ = some (.int .i64 y.ty.kind) ∧ X.cell? ⟨ga, oa + ((j + 1) * 7) + 4, none⟩ = some (.string y.ty.name) ∧ X.cell? ⟨ga, oa + ((j + 1) * 7) + 5, none⟩ = some (.int .i64 y.ty.var) ∧ X.cell? ⟨ga, oa + ((j + 1) * 7) + 6, none⟩ = some (.slice Ab3 y.ty.args.length qb3)) (by kernel_rfl) ?_ (fun hE => ?_)
      · first | exact hQ.out _ hbQ | exact hQ.out _ (by repeat (first | (with_reducible exact Below.refl _ _) | (with_reducible assumption) | (with_reducible refine Below.drew ?_) | (with_reducible refine Below.drewN ?_ _)))
      have hS := hE (by kernel_rfl)
      refine wpAnyT_pure (i := 0) (oi := { dst := some 12, op := Op.move (Operand.tmp 1), type := 143, pos := "iface.go:100", after := #[], guard := none }) (v := ?v4_0_1) rfl (by kernel_rfl) (fun _ _ _ h => h) (Or.inl ⟨by rfl, ?y4_0_1⟩) (fun _ => hS) ?_
      case y4_0_1 => (intro w hSw; go_simp; try with_reducible rfl)
      try simp only [Act.put, List.setIfInBounds_toArray, List.set_cons_zero, List.set_cons_succ]
      refine wpAnyT_pure (i := 1) (oi := { dst := some 13, op := Op.move (Operand.tmp 0), type := 31, pos := "iface.go:100", after := #[], guard := none }) (v := ?v4_1_2) rfl (by kernel_rfl) (fun _ _ _ h => h) (Or.inl ⟨by rfl, ?y4_1_2⟩) (fun _ => hS) ?_
      case y4_1_2 => (intro w hSw; go_simp; try with_reducible rfl)
      try simp only [Act.put, List.setIfInBounds_toArray, List.set_cons_zero, List.set_cons_succ]
      refine wpAnyT_pure (i := 2) (oi := { dst := some 14, op := Op.move (Operand.tmp 5), type := 3, pos := "iface.go:100", after := #[], guard := none }) (v := ?v4_2_3) rfl (by kernel_rfl) (fun _ _ _ h => h) (Or.inl ⟨by rfl, ?y4_2_3⟩) (fun _ => hS) ?_
      case y4_2_3 => (intro w hSw; go_simp; try with_reducible rfl)
      try simp only [Act.put, List.setIfInBounds_toArray, List.set_cons_zero, List.set_cons_succ]
      refine wpAnyT_pure (i := 3) (oi := { dst := some 15, op := Op.binOp BinOp.sub 3 (Operand.tmp 14) (Operand.const (Value.int IntKind.i64 1)) 3, type := 3, pos := "iface.go:100", after := #[⟨2, .data⟩], guard := none }) (v := ?v4_3_4) rfl (by kernel_rfl) (fun _ _ _ h => h) (Or.inl ⟨by rfl, ?y4_3_4⟩) (fun _ => hS) ?_
      case y4_3_4 => (intro w hSw; go_simp; try with_reducible rfl)
      try simp only [Act.put, List.setIfInBounds_toArray, List.set_cons_zero, List.set_cons_succ]
      refine wpAnyT_pure (i := 4) (oi := { dst := some 16, op := Op.indexAddr 31 (Operand.tmp 13) (Operand.tmp 15), type := 0, pos := "iface.go:100", after := #[⟨1, .data⟩, ⟨3, .data⟩], guard := none }) (v := ?v4_4_5) rfl (by kernel_rfl) (fun _ _ _ h => h) (Or.inl ⟨by rfl, ?y4_4_5⟩) (fun _ => hS) ?_
      case y4_4_5 => (intro w hSw; go_simp; try with_reducible rfl)
      try simp only [Act.put, List.setIfInBounds_toArray, List.set_cons_zero, List.set_cons_succ]
      refine wpAnyT_take (i := 5) (oi := { dst := some 17, op := Op.load 61 (Operand.tmp 16), type := 61, pos := "iface.go:100", after := #[⟨4, .data⟩], guard := none }) (v := ?v4_5_6) rfl (by kernel_rfl) (fun _ _ _ h => h) (Or.inl ⟨by rfl, ?y4_5_6⟩) hS ?_
      case y4_5_6 => (intro w hSw; (try dsimp only at hSw); go_simp; try with_reducible rfl)
      try simp only [Act.put, List.setIfInBounds_toArray, List.set_cons_zero, List.set_cons_succ]
      refine wpAnyT_pure (i := 6) (oi := { dst := some 18, op := Op.move (Operand.tmp 0), type := 31, pos := "iface.go:100", after := #[], guard := none }) (v := ?v4_6_7) rfl (by kernel_rfl) (fun _ _ _ h => h) (Or.inl ⟨by rfl, ?y4_6_7⟩) (fun _ => hS) ?_
      case y4_6_7 => (intro w hSw; go_simp; try with_reducible rfl)
      try simp only [Act.put, List.setIfInBounds_toArray, List.set_cons_zero, List.set_cons_succ]
      refine wpAnyT_pure (i := 7) (oi := { dst := some 19, op := Op.move (Operand.tmp 5), type := 3, pos := "iface.go:100", after := #[], guard := none }) (v := ?v4_7_8) rfl (by kernel_rfl) (fun _ _ _ h => h) (Or.inl ⟨by rfl, ?y4_7_8⟩) (fun _ => hS) ?_
      case y4_7_8 => (intro w hSw; go_simp; try with_reducible rfl)
      try simp only [Act.put, List.setIfInBounds_toArray, List.set_cons_zero, List.set_cons_succ]
      refine wpAnyT_pure (i := 8) (oi := { dst := some 20, op := Op.indexAddr 31 (Operand.tmp 18) (Operand.tmp 19), type := 0, pos := "iface.go:100", after := #[⟨6, .data⟩, ⟨7, .data⟩], guard := none }) (v := ?v4_8_9) rfl (by kernel_rfl) (fun _ _ _ h => h) (Or.inl ⟨by rfl, ?y4_8_9⟩) (fun _ => hS) ?_
      case y4_8_9 => (intro w hSw; go_simp; try with_reducible rfl)
      try simp only [Act.put, List.setIfInBounds_toArray, List.set_cons_zero, List.set_cons_succ]
      refine wpAnyT_take (i := 9) (oi := { dst := some 21, op := Op.load 61 (Operand.tmp 20), type := 61, pos := "iface.go:100", after := #[⟨8, .data⟩], guard := none }) (v := ?v4_9_10) rfl (by kernel_rfl) (fun _ _ _ h => h) (Or.inl ⟨by rfl, ?y4_9_10⟩) hS ?_
      case y4_9_10 => (intro w hSw; (try dsimp only at hSw); go_simp; try with_reducible rfl)
      try simp only [Act.put, List.setIfInBounds_toArray, List.set_cons_zero, List.set_cons_succ]
      refine wpAnyT_ready (rs := [10]) (by kernel_rfl) rfl ?_
      refine AllT.cons (o := { dst := some 22, op := Op.call { callee := Callee.value (Operand.tmp 12), args := #[Operand.tmp 17, Operand.tmp 21], argTypes := #[61, 61] }, type := 3, pos := "iface.go:100", after := #[⟨0, .data⟩, ⟨5, .data⟩, ⟨9, .data⟩], guard := none }) rfl (fun K hK => ?_) ?_
      · (go_simp; refine (HCl.out _ (by repeat (first | (with_reducible exact Below.refl _ _) | (with_reducible assumption) | (with_reducible refine Below.drew ?_) | (with_reducible refine Below.drewN ?_ _)))).mono ?_; rintro e wq ⟨rfl, hbq⟩; go_wp2_with fail; have hbQ := Below.trans (show Below wr.heap.size wr _ from (by repeat (first | (with_reducible exact Below.refl _ _) | (with_reducible assumption) | (with_reducible refine Below.drew ?_) | (with_reducible refine Below.drewN ?_ _)))) (hbq.mono (Below.size (show Below wr.heap.size wr _ from (by repeat (first | (with_reducible exact Below.refl _ _) | (with_reducible assumption) | (with_reducible refine Below.drew ?_) | (with_reducible refine Below.drewN ?_ _)))))))
        refine hK.out _ _ (fun _ => ?_) (fun hE => ?_)
        · first | exact hQ.out _ hbQ | exact hQ.out _ (by repeat (first | (with_reducible exact Below.refl _ _) | (with_reducible assumption) | (with_reducible refine Below.drew ?_) | (with_reducible refine Below.drewN ?_ _)))
        have hS := hE (by kernel_rfl)
        clear hK K hE
        try simp only [Act.put, List.setIfInBounds_toArray, List.set_cons_zero, List.set_cons_succ]
        refine wpAnyT_pure (i := 11) (oi := { dst := some 23, op := Op.binOp BinOp.geq 3 (Operand.tmp 22) (Operand.const (Value.int IntKind.i64 0)) 3, type := 4, pos := "iface.go:100", after := #[⟨10, .data⟩], guard := none }) (v := ?v4_11_11) rfl (by kernel_rfl) (fun _ _ _ h => h) (Or.inl ⟨by rfl, ?y4_11_11⟩) (fun _ => hS) ?_
        case y4_11_11 => (intro w hSw; go_simp; try with_reducible rfl)
        try simp only [Act.put, List.setIfInBounds_toArray, List.set_cons_zero, List.set_cons_succ]
        refine wpAnyT_done (by kernel_rfl) ?_ _
        refine NoPanic.normal ?_
        have HBQ := Lib.hid (HB.out.trans (hbQ.mono HB.out.size))
        clear hbQ hbq
        by_cases hcc : 0 ≤ c x y
        · have hst := HSt.out
          rw [if_pos hcc] at hst
          have HE := Lib.hid (hno.out.trans hst)
          clear hst
          go_wp2_with fail
          go_ret
          exact ⟨ret_bool HE.out.symm, HBQ.out⟩
        · have hst := HSt.out
          rw [if_neg hcc] at hst
          have HE := Lib.hid (hno.out.trans hst)
          clear hst
          go_wp2_with fail
          go_roundw
          case rel => exact ⟨j + 1, by go_num, by omega, HBQ.out, HE.out⟩
          case measure => simp [intOf]; omega
      exact AllT.nil
    · have HE := Lib.hid (hno.out.trans (incr_end c l j (by omega)))
      have HB := Lib.hid hb
      have k1 : ¬ (j : Int) + 1 < (l.length : Int) := by omega
      clear hno hb
      go_wp2_with fail
      go_ret
      exact ⟨ret_bool HE.out.symm, HB.out⟩
end If
end Go.Proofs.YtcbkihplchdhhaaDoor
