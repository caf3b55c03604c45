/- The evaluator's operations on two values do what the model's do. No conditions. -/
import Derived.Test.YtdoddlkppkegnaaGreatDoorEvA
namespace Go.Proofs.YtdoddlkppkegnaaGreatDoor.Ev
set_option linter.unusedVariables false
open Go Go.RowKit
set_option linter.unusedSimpArgs false

/-- What the model runs at an operation on two values. -/
def binSem (op : BinOp) (t : TypeId) (x y : Operand) (u v : Value) : Sem Value := do
  eqGuard op t x y u v
  binOp op t u v
def B2Ok (P : Program) (op : BinOp) (t : TypeId) (c : Bool) (b : B2) : Prop :=
  ∀ u v K, b.f u v K = true → ∀ sy e u' v', RV sy e u u' → RV sy e v v' → ∃ r r', K r = true ∧ RV sy e r r' ∧ ∀ (W : World) (x y : Operand), (c = true → (isC x || isC y) = true) → (binSem op t x y u' v').run P W = .ok r' W
theorem guard_int (op : BinOp) (t : TypeId) (x y : Operand) (k j : IntKind) (a b : Int) : binSem op t x y (.int k a) (.int j b) = binOp op t (.int k a) (.int j b) := by
  cases op <;> rfl
theorem guard_str (op : BinOp) (t : TypeId) (x y : Operand) (a b : ByteArray) : binSem op t x y (.string a) (.string b) = binOp op t (.string a) (.string b) := by
  cases op <;> rfl
theorem b2No {P : Program} {op : BinOp} {t : TypeId} {c : Bool} : B2Ok P op t c ⟨fun _ _ _ => false⟩ := fun _ _ _ h => by cases h
section
variable {P : Program} {t : TypeId} {c : Bool}
theorem b2Int_ok {op : BinOp} {g : IntKind → Int → Int → (AV → Bool) → Bool}
    (h : ∀ k a b K, g k a b K = true → ∃ r : Value, ∃ r0 : AV, K r0 = true ∧ (∀ sy e, RV sy e r0 r) ∧ ∀ W : World, (binOp op t (.int k a) (.int k b)).run P W = .ok r W) : B2Ok P op t c (b2Int g) := by
  intro u v K hb sy e u' v' hu hv
  obtain ⟨k, a, rfl, h1⟩ := asInt_yes hb
  obtain ⟨j, b, rfl, h2⟩ := asInt_yes h1
  obtain ⟨h3, h4⟩ := ifB_yes h2
  obtain rfl := sameK_yes h3
  cases hu; cases hv
  obtain ⟨r, r0, h5, h6, h7⟩ := h _ _ _ _ h4
  exact ⟨r0, r, h5, h6 sy e, fun W x y _ => by rw [guard_int]; exact h7 W⟩
theorem b2_sub : B2Ok P .sub t c (cBin P c t .sub) := b2Int_ok fun k a b K h => by
  rw [wrapK_eq] at h
  exact ⟨_, _, h, fun _ _ => .int _ _, fun W => by simp [binOp, Op.intArith, pure, Sem.run] <;> rfl⟩
theorem b2_mul : B2Ok P .mul t c (cBin P c t .mul) := b2Int_ok fun k a b K h => by
  rw [wrapK_eq] at h
  exact ⟨_, _, h, fun _ _ => .int _ _, fun W => by simp [binOp, Op.intArith, pure, Sem.run] <;> rfl⟩
/-- What is known of a quotient's remainder. -/
theorem quo_cls {n : Int} {m b : Nat} (hb : 0 < b) (hm : m % b = 0) : (n.tdiv b).tmod (m / b : Nat) = (n.tmod m).tdiv b := by
  obtain ⟨d, rfl⟩ : ∃ d, m = b * d := ⟨m / b, (Nat.mul_div_cancel' (Nat.dvd_of_mod_eq_zero hm)).symm⟩
  rw [Nat.mul_div_cancel_left d hb]
  have key : ∀ a : Nat, ((a : Int).tdiv b).tmod d = ((a : Int).tmod (b * d : Nat)).tdiv b := fun a => by
    rw [← Int.ofNat_tdiv, ← Int.ofNat_tmod, ← Int.ofNat_tmod, ← Int.ofNat_tdiv, Nat.mod_mul_right_div_self]
  rcases Int.eq_nat_or_neg n with ⟨a, rfl | rfl⟩
  · exact key a
  · rw [Int.neg_tdiv, Int.neg_tmod, Int.neg_tmod, Int.neg_tdiv, key a]
theorem rem_cls {n : Int} {m b : Nat} (hm : m % b = 0) : n.tmod b = (n.tmod m).tmod b := by
  obtain ⟨d, rfl⟩ : ∃ d, m = b * d := ⟨m / b, (Nat.mul_div_cancel' (Nat.dvd_of_mod_eq_zero hm)).symm⟩
  have key : ∀ a : Nat, (a : Int).tmod b = ((a : Int).tmod (b * d : Nat)).tmod b := fun a => by
    rw [← Int.ofNat_tmod, ← Int.ofNat_tmod, ← Int.ofNat_tmod, Nat.mod_mul_right_mod]
  rcases Int.eq_nat_or_neg n with ⟨a, rfl | rfl⟩
  · exact key a
  · rw [Int.neg_tmod, Int.neg_tmod, Int.neg_tmod, key a]
theorem tdiv_in {n : Int} {b : Nat} (hb : 0 < b) (h : -9223372036854775808 ≤ n ∧ n ≤ 9223372036854775807) : -9223372036854775808 ≤ n.tdiv b ∧ n.tdiv b ≤ 9223372036854775807 := by
  have h1 : (n.tdiv b).natAbs ≤ n.natAbs := by
    rw [Int.natAbs_tdiv]; exact Nat.div_le_self _ _
  have h2 : (n.tdiv b).natAbs ≤ n.natAbs := h1
  by_cases hn : 0 ≤ n
  · have := Int.tdiv_nonneg hn (show (0 : Int) ≤ b by omega)
    omega
  · have h3 : n.tdiv b ≤ 0 := by
      have := Int.tdiv_nonneg (a := -n) (b := b) (by omega) (by omega)
      rw [Int.neg_tdiv] at this
      omega
    omega
theorem b2Cls_ok {op : BinOp} {g : IntKind → Int → Int → (AV → Bool) → Bool} {g' : Nat → Int → Nat → (AV → Bool) → Bool}
    (h : ∀ k a b K, g k a b K = true → ∃ r : Value, ∃ r0 : AV, K r0 = true ∧ (∀ sy e, RV sy e r0 r) ∧ ∀ W : World, (binOp op t (.int k a) (.int k b)).run P W = .ok r W)
    (h' : ∀ (m : Nat) (r n : Int) (b : Nat) K, g' m r b K = true → 0 < b → m % b = 0 → n.tmod m = r → (-9223372036854775808 ≤ n ∧ n ≤ 9223372036854775807) →
      ∃ v : Value, ∃ r0 : AV, K r0 = true ∧ (∀ sy e, RV sy e r0 v) ∧ ∀ W : World, (binOp op t (.int .i64 n) (.int .i64 (b : Int))).run P W = .ok v W) : B2Ok P op t c (b2Cls g g') := by
  intro u v K hb sy e u' v' hu hv
  cases u with
  | int k a =>
    obtain ⟨j, b, rfl, h2⟩ := asInt_yes (show asInt v (fun j b => ifB (sameK k j) (g k a b K) false) = true from hb)
    obtain ⟨h3, h4⟩ := ifB_yes h2
    obtain rfl := sameK_yes h3
    cases hu; cases hv
    obtain ⟨r, r0, h5, h6, h7⟩ := h _ _ _ _ h4
    exact ⟨r0, r, h5, h6 sy e, fun W x y _ => by rw [guard_int]; exact h7 W⟩
  | sym i =>
    obtain ⟨j, b, rfl, h2⟩ := asInt_yes (show asInt v (fun j b => asNat b fun b => ifB (sameK .i64 j && Nat.ble 2000 i && Nat.blt 0 b && Nat.beq (Nat.mod (symM i) b) 0) (g' (symM i) (symR i) b K) false) = true from hb)
    obtain ⟨b, rfl, h3⟩ := asNat_yes h2
    obtain ⟨h4, h5⟩ := ifB_yes h3
    simp only [Bool.and_eq_true] at h4
    obtain ⟨⟨⟨g1, g2⟩, g3⟩, g4⟩ := h4
    obtain rfl := sameK_yes g1
    cases hv
    cases hu with
    | sym _ hi _ => exact absurd (ble_iff.1 g2) (by omega)
    | symc _ hbd hm =>
      obtain ⟨r, r0, h6, h7, h8⟩ := h' _ _ _ b K h5 (blt_iff.1 g3) (beq_iff.1 g4) hm hbd
      exact ⟨r0, r, h6, h7 sy e, fun W x y _ => by rw [guard_int]; exact h8 W⟩
  | _ => cases hb
theorem quoG_ok (k : IntKind) (a b : Int) (K : AV → Bool) (h : quoG k a b K = true) : ∃ r : Value, ∃ r0 : AV, K r0 = true ∧ (∀ sy e, RV sy e r0 r) ∧ ∀ W : World, (binOp .quo t (.int k a) (.int k b)).run P W = .ok r W := by
  unfold quoG at h
  obtain ⟨h0, h1⟩ := ifB_no h
  rw [wrapK_eq] at h1
  have hb : b ≠ 0 := fun e => by rw [eqI_eq, e] at h0; simp at h0
  exact ⟨_, _, h1, fun _ _ => .int _ _, fun W => by simp [binOp, Op.intDiv, hb, pure, Sem.run]⟩
theorem remG_ok (k : IntKind) (a b : Int) (K : AV → Bool) (h : remG k a b K = true) : ∃ r : Value, ∃ r0 : AV, K r0 = true ∧ (∀ sy e, RV sy e r0 r) ∧ ∀ W : World, (binOp .rem t (.int k a) (.int k b)).run P W = .ok r W := by
  unfold remG at h
  obtain ⟨h0, h1⟩ := ifB_no h
  rw [frcI_eq] at h1
  have hb : b ≠ 0 := fun e => by rw [eqI_eq, e] at h0; simp at h0
  exact ⟨_, _, h1, fun _ _ => .int _ _, fun W => by simp [binOp, Op.intDiv, hb, pure, Sem.run]⟩
theorem quoH_ok (m : Nat) (r n : Int) (b : Nat) (K : AV → Bool) (h : quoH m r b K = true) (hb : 0 < b) (hm : m % b = 0) (hr : n.tmod m = r) (hn : -9223372036854775808 ≤ n ∧ n ≤ 9223372036854775807) :
    ∃ v : Value, ∃ r0 : AV, K r0 = true ∧ (∀ sy e, RV sy e r0 v) ∧ ∀ W : World, (binOp .quo t (.int .i64 n) (.int .i64 (b : Int))).run P W = .ok v W := by
  unfold quoH at h
  generalize hj : symC (Nat.div m b) (Int.tdiv r (Int.ofNat b)) = j at h
  obtain ⟨h0, h1⟩ := ifB_yes h
  rw [frcN_eq] at h1
  simp only [Bool.and_eq_true] at h0
  obtain ⟨⟨g1, g2⟩, g3⟩ := h0
  have e1 := beq_iff.1 g2
  have e2 := eqI_iff.1 g3
  have hb' : b ≠ 0 := by omega
  have hin := tdiv_in (n := n) hb hn
  refine ⟨.int .i64 (n.tdiv b), _, h1, fun _ _ => .symc (ble_iff.1 g1) hin ?_, fun W => ?_⟩
  · rw [e1, e2]
    exact (quo_cls hb hm).trans (by rw [hr]; rfl)
  · have hw : IntKind.wrap .i64 (n.tdiv b) = n.tdiv b := by
      show (if (true && decide (n.tdiv b % 18446744073709551616 ≥ 9223372036854775808)) = true then n.tdiv b % 18446744073709551616 - 18446744073709551616 else n.tdiv b % 18446744073709551616) = n.tdiv b
      simp only [Bool.true_and, decide_eq_true_eq]
      split <;> omega
    simp [binOp, Op.intDiv, hb', pure, Sem.run, hw]
theorem remH_ok (m : Nat) (r n : Int) (b : Nat) (K : AV → Bool) (h : remH m r b K = true) (hb : 0 < b) (hm : m % b = 0) (hr : n.tmod m = r) (_ : -9223372036854775808 ≤ n ∧ n ≤ 9223372036854775807) :
    ∃ v : Value, ∃ r0 : AV, K r0 = true ∧ (∀ sy e, RV sy e r0 v) ∧ ∀ W : World, (binOp .rem t (.int .i64 n) (.int .i64 (b : Int))).run P W = .ok v W := by
  unfold remH at h
  rw [frcI_eq] at h
  have hb' : b ≠ 0 := by omega
  refine ⟨.int .i64 (n.tmod b), _, h, fun sy e => ?_, fun W => by simp [binOp, Op.intDiv, hb', pure, Sem.run]⟩
  have : n.tmod b = r.tmod (Int.ofNat b) := by rw [rem_cls hm, hr]; rfl
  rw [this]; exact .int _ _
theorem b2_quo : B2Ok P .quo t c (cBin P c t .quo) := b2Cls_ok (g := quoG) (g' := quoH) quoG_ok quoH_ok
theorem b2_rem : B2Ok P .rem t c (cBin P c t .rem) := b2Cls_ok (g := remG) (g' := remH) remG_ok remH_ok
theorem b2_and : B2Ok P .and t c (cBin P c t .and) := b2Int_ok fun k a b K h => by
  obtain ⟨r, h0, h1⟩ := ifO_yes h
  rw [frcI_eq] at h1
  cases h0
  exact ⟨_, _, h1, fun _ _ => .int _ _, fun W => by simp [binOp, Op.intBits, pure, Sem.run]⟩
theorem b2_or : B2Ok P .or t c (cBin P c t .or) := b2Int_ok fun k a b K h => by
  obtain ⟨r, h0, h1⟩ := ifO_yes h
  rw [frcI_eq] at h1
  cases h0
  exact ⟨_, _, h1, fun _ _ => .int _ _, fun W => by simp [binOp, Op.intBits, pure, Sem.run]⟩
theorem b2_xor : B2Ok P .xor t c (cBin P c t .xor) := b2Int_ok fun k a b K h => by
  obtain ⟨r, h0, h1⟩ := ifO_yes h
  rw [frcI_eq] at h1
  cases h0
  exact ⟨_, _, h1, fun _ _ => .int _ _, fun W => by simp [binOp, Op.intBits, pure, Sem.run]⟩
theorem b2_andNot : B2Ok P .andNot t c (cBin P c t .andNot) := b2Int_ok fun k a b K h => by
  obtain ⟨r, h0, h1⟩ := ifO_yes h
  rw [frcI_eq] at h1
  cases h0
  exact ⟨_, _, h1, fun _ _ => .int _ _, fun W => by simp [binOp, Op.intBits, pure, Sem.run]⟩
theorem b2_shl : B2Ok P .shl t c (cBin P c t .shl) := by
  intro u v K hb sy e u' v' hu hv
  obtain ⟨k, a, rfl, h1⟩ := asInt_yes hb
  obtain ⟨j, b, rfl, h2⟩ := asInt_yes h1
  obtain ⟨h0, h3⟩ := ifB_no h2
  rw [frcI_eq] at h3
  cases hu; cases hv
  have hb' : ¬ b < 0 := fun e => by rw [ltI_eq] at h0; simp at h0; omega
  exact ⟨_, _, h3, .int _ _, fun W x y _ => by rw [guard_int]; simp [binOp, Op.shift, hb', pure, Sem.run]⟩
theorem b2_shr : B2Ok P .shr t c (cBin P c t .shr) := by
  intro u v K hb sy e u' v' hu hv
  obtain ⟨k, a, rfl, h1⟩ := asInt_yes hb
  obtain ⟨j, b, rfl, h2⟩ := asInt_yes h1
  obtain ⟨h0, h3⟩ := ifB_no h2
  rw [frcI_eq] at h3
  cases hu; cases hv
  have hb' : ¬ b < 0 := fun e => by rw [ltI_eq] at h0; simp at h0; omega
  exact ⟨_, _, h3, .int _ _, fun W x y _ => by rw [guard_int]; simp [binOp, Op.shift, hb', pure, Sem.run]⟩

/-! ### Strings -/
theorem toList_map (b : ByteArray) : b.toList = b.data.toList := ByteArray.toList_eq b
theorem u8_inj {a b : UInt8} (h : a.toNat = b.toNat) : a = b := UInt8.toNat_inj.1 h
theorem eqNs_iff : ∀ {x y : List Nat}, eqNs x y = true ↔ x = y
  | [], [] => ⟨fun _ => rfl, fun _ => rfl⟩
  | [], _ :: _ => ⟨(fun h => by cases h), (fun h => by cases h)⟩
  | _ :: _, [] => ⟨(fun h => by cases h), (fun h => by cases h)⟩
  | a :: x, b :: y => by
    show ifB (Nat.beq a b) (eqNs x y) false = true ↔ _
    constructor
    · intro h
      obtain ⟨h1, h2⟩ := ifB_yes h
      rw [beq_iff.1 h1, eqNs_iff.1 h2]
    · intro h
      injection h with h1 h2
      rw [beq_iff.2 h1]
      exact eqNs_iff.2 h2
theorem map_inj : ∀ {x y : List UInt8}, x.map UInt8.toNat = y.map UInt8.toNat → x = y
  | [], [], _ => rfl
  | [], _ :: _, h => by cases h
  | _ :: _, [], h => by cases h
  | a :: x, b :: y, h => by
    injection h with h1 h2
    rw [u8_inj h1, map_inj h2]
theorem eqNs_str {s r : List Nat} {a b : ByteArray} (ha : a.data.toList.map UInt8.toNat = s) (hb : b.data.toList.map UInt8.toNat = r) : eqNs s r = (a.toList == b.toList) := by
  rw [Bool.eq_iff_iff, eqNs_iff, beq_iff_eq, toList_map, toList_map, ← ha, ← hb]
  exact ⟨map_inj, fun h => by rw [h]⟩
theorem ltNs_bytes : ∀ (x y : List UInt8), ltNs (x.map UInt8.toNat) (y.map UInt8.toNat) = Op.bytesLess x y
  | [], [] => rfl
  | _ :: _, [] => rfl
  | [], _ :: _ => rfl
  | a :: x, b :: y => by
    show ifB (Nat.blt a.toNat b.toNat) true (ifB (Nat.beq a.toNat b.toNat) (ltNs (x.map UInt8.toNat) (y.map UInt8.toNat)) false) = (decide (a < b) || (a == b && Op.bytesLess x y))
    rw [ltNs_bytes x y]
    have e1 : Nat.blt a.toNat b.toNat = decide (a < b) := by
      rw [Bool.eq_iff_iff, blt_iff, decide_eq_true_iff]; exact UInt8.lt_iff_toNat_lt.symm
    have e2 : Nat.beq a.toNat b.toNat = (a == b) := by
      rw [Bool.eq_iff_iff, beq_iff, beq_iff_eq]; exact ⟨u8_inj, fun h => by rw [h]⟩
    rw [e1, e2]
    cases decide (a < b) <;> cases (a == b) <;> rfl
theorem ltNs_str {s r : List Nat} {a b : ByteArray} (ha : a.data.toList.map UInt8.toNat = s) (hb : b.data.toList.map UInt8.toNat = r) : ltNs s r = Op.bytesLess a.toList b.toList := by
  rw [toList_map, toList_map, ← ha, ← hb]; exact ltNs_bytes _ _
theorem lenNs_eq : ∀ (x : List Nat), lenNs x = x.length
  | [] => rfl
  | _ :: x => congrArg Nat.succ (lenNs_eq x)
theorem lenK_from (K : Nat → Bool) : ∀ (x : List Nat) (n : Nat), (List.rec (motive := fun _ => Nat → Bool) (fun n => K n) (fun _ _ ih n => frcN (Nat.succ n) fun n => ih n) x n : Bool) = K (n + x.length)
  | [], n => rfl
  | a :: x, n => by
    show frcN (Nat.succ n) (fun n => (List.rec (motive := fun _ => Nat → Bool) (fun n => K n) (fun _ _ ih n => frcN (Nat.succ n) fun n => ih n) x n : Bool)) = _
    rw [frcN_eq, lenK_from K x]
    congr 1
    simp; omega
theorem lenK_eq (x : List Nat) (K : Nat → Bool) : lenK x K = K x.length := by
  unfold lenK
  rw [lenK_from K x 0, Nat.zero_add]
theorem appNs_eq : ∀ (x y : List Nat) (K : List Nat → Bool), appNs x y K = K (x ++ y)
  | [], _, _ => rfl
  | a :: x, y, K => appNs_eq x y fun l => K (a :: l)
theorem dropNs_eq : ∀ (n : Nat) (x : List Nat) (K : List Nat → Bool), dropNs n x K = K (x.drop n)
  | 0, _, _ => rfl
  | _ + 1, [], _ => rfl
  | n + 1, _ :: x, K => dropNs_eq n x K
theorem takeNs_eq : ∀ (n : Nat) (x : List Nat) (K : List Nat → Bool), takeNs n x K = K (x.take n)
  | 0, _, _ => rfl
  | _ + 1, [], _ => rfl
  | n + 1, a :: x, K => takeNs_eq n x fun l => K (a :: l)
theorem str_size {s : List Nat} {b : ByteArray} (h : b.data.toList.map UInt8.toNat = s) : b.size = s.length := by
  rw [← h, List.length_map, Array.length_toList]; rfl
theorem b2Cmp_ok {op : BinOp} {g : Int → Int → Bool} {f : List Nat → List Nat → Bool}
    (h1 : ∀ k a b (W : World), (binOp op t (.int k a) (.int k b)).run P W = .ok (.bool (g a b)) W)
    (h2 : ∀ a b (W : World), (binOp op t (.string a) (.string b)).run P W = .ok (.bool (f (a.data.toList.map UInt8.toNat) (b.data.toList.map UInt8.toNat))) W) : B2Ok P op t c (b2Cmp g f) := by
  intro u v K hb sy e u' v' hu hv
  cases u with
  | int k a =>
    obtain ⟨j, b, rfl, h3⟩ := asInt_yes (v := v) hb
    obtain ⟨h4, h5⟩ := ifB_yes h3
    obtain rfl := sameK_yes h4
    rw [frcB_eq] at h5
    cases hu; cases hv
    exact ⟨_, _, h5, .bool _, fun W x y _ => by rw [guard_int]; exact h1 _ _ _ W⟩
  | str s =>
    obtain ⟨r, rfl, h3⟩ := asStr_yes (v := v) hb
    rw [frcB_eq] at h3
    cases hu with | str hs => cases hv with | str hr =>
    subst hs; subst hr
    exact ⟨_, _, h3, .bool _, fun W x y _ => by rw [guard_str]; exact h2 _ _ W⟩
  | _ => cases hb
theorem b2_lss : B2Ok P .lss t c (cBin P c t .lss) := b2Cmp_ok (fun k a b W => by simp [binOp, Op.intCmp, ltI_eq, pure, Sem.run]) (fun a b W => by simp [binOp, Op.stringOp, ltNs_str rfl rfl, pure, Sem.run])
theorem not_lt_le (a b : Int) : Bool.not (decide (b < a)) = decide (a ≤ b) := by
  rw [Bool.eq_iff_iff]; simp
theorem bytesLess_tri : ∀ (x y : List UInt8), (Op.bytesLess x y || x == y) = !(Op.bytesLess y x)
  | [], [] => rfl
  | _ :: _, [] => by simp [Op.bytesLess]
  | [], _ :: _ => by simp [Op.bytesLess]
  | a :: x, b :: y => by
    have ih := bytesLess_tri x y
    simp only [Op.bytesLess]
    by_cases h1 : a < b
    · have h2 : ¬ b < a := fun h => absurd (UInt8.lt_iff_toNat_lt.1 h1) (by have := UInt8.lt_iff_toNat_lt.1 h; omega)
      have h3 : a ≠ b := fun h => by subst h; exact h2 h1
      simp [h1, h2, h3, Ne.symm h3]
    · by_cases h3 : a = b
      · subst h3; simp [h1]; simpa using ih
      · have h2 : b < a := by
          rw [UInt8.lt_iff_toNat_lt] at h1 ⊢
          have : a.toNat ≠ b.toNat := fun h => h3 (u8_inj h)
          omega
        simp [h1, h2, h3, Ne.symm h3]
theorem b2_leq : B2Ok P .leq t c (cBin P c t .leq) := b2Cmp_ok (fun k a b W => by simp only [binOp, Op.intCmp, ltI_eq, not_lt_le]; simp [pure, Sem.run]) (fun a b W => by
  rw [ltNs_str (a := b) (b := a) rfl rfl]
  have := bytesLess_tri a.toList b.toList
  simp only [binOp, Op.stringOp, this]
  simp [pure, Sem.run])
theorem b2_gtr : B2Ok P .gtr t c (cBin P c t .gtr) := b2Cmp_ok (fun k a b W => by simp [binOp, Op.intCmp, ltI_eq, pure, Sem.run]) (fun a b W => by
  rw [ltNs_str (a := b) (b := a) rfl rfl]
  have := bytesLess_tri a.toList b.toList
  simp only [binOp, Op.stringOp, this]
  simp [pure, Sem.run])
theorem b2_geq : B2Ok P .geq t c (cBin P c t .geq) := b2Cmp_ok (fun k a b W => by simp only [binOp, Op.intCmp, ltI_eq, not_lt_le]; simp [pure, Sem.run]) (fun a b W => by
  rw [ltNs_str (a := a) (b := b) rfl rfl]
  simp [binOp, Op.stringOp, pure, Sem.run])
theorem b2_add : B2Ok P .add t c (cBin P c t .add) := by
  intro u v K hb sy e u' v' hu hv
  cases u with
  | int k a =>
    obtain ⟨j, b, rfl, h3⟩ := asInt_yes (v := v) hb
    obtain ⟨h4, h5⟩ := ifB_yes h3
    obtain rfl := sameK_yes h4
    rw [wrapK_eq] at h5
    cases hu; cases hv
    exact ⟨_, _, h5, .int _ _, fun W x y _ => by rw [guard_int]; simp [binOp, Op.intArith, pure, Sem.run] <;> rfl⟩
  | str s =>
    obtain ⟨r, rfl, h3⟩ := asStr_yes (v := v) hb
    obtain ⟨h4, h5⟩ := ifB_yes h3
    rw [appNs_eq] at h5
    cases hu with | str hs => cases hv with | str hr =>
    rename_i a b
    have h6 := ble_iff.1 h4
    have h7 : ¬ (9223372036854775807 : Int) < (a.size : Int) + (b.size : Int) := by
      rw [str_size hs, str_size hr, ← lenNs_eq, ← lenNs_eq]
      have : lenNs s + lenNs r ≤ 1000000 := h6
      omega
    refine ⟨_, _, h5, .str (b := a ++ b) ?_, fun W x y _ => ?_⟩
    · subst hs; subst hr
      simp [ByteArray.data_append]
    · rw [guard_str]
      have hm : IntKind.i64.max = 9223372036854775807 := rfl
      simp [binOp, Op.stringOp, hm, h7, pure, Sem.run]
  | _ => cases hb
end
end Go.Proofs.YtdoddlkppkegnaaGreatDoor.Ev
