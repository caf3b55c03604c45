/- iface.types: the list of all types of an interface; the list in memory, the closure for schemes. -/
import Derived.Test.YtcbkihplchdhhaaDoorIfA
import Derived.Test.YtcbkihplchdhhaaDoorStepKept2
import Derived.Test.YtcbkihplchdhhaaDoorTill
import Derived.Deep.RegionHeld3
import Derived.Deep.CutRange
import Derived.Deep.DeepCutAuto
import Derived.Laws.OwnMore
namespace Go.Proofs.YtcbkihplchdhhaaDoor
open Go.RowKit Go.Shelf

namespace If
def flatU (U : List (Ty × Value)) : List Value := U.flatMap fun p => p.1.cells p.2
theorem flatU_len (U : List (Ty × Value)) : (flatU U).length = U.length * 4 := by
  unfold flatU
  induction U with
  | nil => rfl
  | cons x s ih => rw [List.flatMap_cons, List.length_append, ih, List.length_cons]; simp [Ty.cells]; omega
theorem flatU_app (U V : List (Ty × Value)) : flatU (U ++ V) = flatU U ++ flatU V := by simp [flatU]
/-- The list of types, in a variable of its own. -/
structure TAt (W : World) (B bo : Nat) (v : Value) (U : List (Ty × Value)) : Prop where
  box : Blk W bo 45 [v]
  row : W.ownsRow B 47 4 v U.length (flatU U)
def TTo (B bo : Nat) (v : Value) (W : World) (U' : List (Ty × Value)) (w' : World) : Prop := ∃ v', TAt w' B bo v' U' ∧ Keeps (Own2 bo v) W w' ∧ ∀ i, Own2 bo v' i → Own2 bo v i ∨ W.heap.size ≤ i
def Good (W : World) (F : Nat → Prop) (U : List (Ty × Value)) : Prop := ∀ p ∈ U, TyC W F p.1 p.2
section
variable {W W' w w' : World} {B bo : Nat} {v : Value} {U : List (Ty × Value)}
theorem TAt.keeps {X : Nat → Prop} (h : TAt W B bo v U) (hk : Keeps X W W') (hX : ∀ i, Own2 bo v i → ¬ X i) : TAt W' B bo v U :=
  ⟨h.box.keeps hk (hX bo (.inl rfl)), own_keeps h.row hk (fun i hi => hX i (.inr hi))⟩
theorem TAt.same (h : TAt W B bo v U) (hk : Keeps (fun _ => False) W W') : TAt W' B bo v U := h.keeps hk (fun _ _ h => h)
theorem TAt.nV (h : TAt W B bo v U) : ¬ v.ownBlock = some bo := own_ne_blk h.row h.box (by decide)
theorem TAt.lt (h : TAt W B bo v U) (i : Nat) (hi : Own2 bo v i) : i < W.heap.size := by
  rcases hi with rfl | hi
  · exact h.box.lt
  · exact (h.row.lt i hi).2
theorem TAt.lo (h : TAt W B bo v U) (hB : B ≤ bo) (i : Nat) (hi : Own2 bo v i) : B ≤ i := by
  rcases hi with rfl | hi
  · exact hB
  · exact (h.row.lt i hi).1
theorem TTo.trans {w1 w2 : World} {v1 : Value} {U2 : List (Ty × Value)} (hk : Keeps (Own2 bo v) W w1) (hn : ∀ i, Own2 bo v1 i → Own2 bo v i ∨ W.heap.size ≤ i) (h2 : TTo B bo v1 w1 U2 w2) : TTo B bo v W U2 w2 := by
  obtain ⟨v2, g1, g2, g3⟩ := h2
  have hs := hk.size
  refine ⟨v2, g1, hk.trans g2 (fun i hi hx => ?_), fun i hi => ?_⟩
  · rcases hn i hx with h | h
    · exact h
    · omega
  · rcases g3 i hi with h | h
    · exact hn i h
    · exact .inr (by omega)
theorem TAt.to (h : TAt W B bo v U) : TTo B bo v W U W := ⟨v, h, Keeps.refl _ _, fun _ hi => .inl hi⟩
theorem TTo.keeps (T : TTo B bo v W U w) : Keeps (Own2 bo v) W w := by
  obtain ⟨_, _, h, _⟩ := T
  exact h
theorem TTo.more (T : TTo B bo v W U w) (hk : Keeps (fun _ => False) w w') : TTo B bo v W U w' := by
  obtain ⟨v1, h1, h2, h3⟩ := T
  exact ⟨v1, h1.same hk, h2.trans hk (fun _ _ h => h.elim), h3⟩
theorem TTo.far (_T : TTo B bo v W U w) (hlo : ∀ i, Own2 bo v i → B ≤ i) {F : Nat → Prop} (hF : ∀ i, F i → i < B) (i : Nat) (hi : F i) : ¬ Own2 bo v i := fun h => by
  have := hF i hi; have := hlo i h; omega
/-- The state told anew of a later world. -/
theorem TTo.rebase {W0 : World} (T : TTo B bo v W U w) (hk : Keeps (fun _ => False) w W0) (hB : B ≤ bo) :
    ∃ v0, TAt W0 B bo v0 U ∧ (∀ X U', TTo B bo v0 W0 U' X → TTo B bo v W U' X) ∧ (∀ i, Own2 bo v0 i → i < w.heap.size) ∧ (∀ i, Own2 bo v0 i → B ≤ i) := by
  obtain ⟨v0, h0, hk0, hn0⟩ := T
  refine ⟨v0, h0.same hk, fun X U' hX => TTo.trans hk0 hn0 ?_, h0.lt, h0.lo hB⟩
  obtain ⟨v2, g1, g2, g3⟩ := hX
  exact ⟨v2, g1, (hk.mono (fun _ _ h => h.elim)).trans g2 (fun _ _ h => h), fun i hi => (g3 i hi).imp id (fun h => Nat.le_trans hk.size h)⟩
/-- Four cells of the last element are written. -/
theorem own_four {te : TypeId} {g n m cap : Nat} {xs ys : List Value} {a b c d u0 u1 u2 u3 : Value} (h : W.ownsRow B te 4 (.slice (some ⟨g, 0, none⟩) n cap) n (xs ++ [a, b, c, d] ++ ys)) (hx : xs.length = m) :
    ((((W.setCell ⟨g, m, none⟩ u0).setCell ⟨g, m + 1, none⟩ u1).setCell ⟨g, m + 2, none⟩ u2).setCell ⟨g, m + 3, none⟩ u3).ownsRow B te 4 (.slice (some ⟨g, 0, none⟩) n cap) n (xs ++ [u0, u1, u2, u3] ++ ys) := by
  subst hx
  have h1 := ((((h.stored xs.length u0).1.stored (xs.length + 1) u1).1.stored (xs.length + 2) u2).1.stored (xs.length + 3) u3).1
  have e : ((((xs ++ [a, b, c, d] ++ ys).set xs.length u0).set (xs.length + 1) u1).set (xs.length + 2) u2).set (xs.length + 3) u3 = xs ++ [u0, u1, u2, u3] ++ ys := by
    simp [List.append_assoc, List.set_append_right]
  rw [e] at h1
  exact h1
theorem TAt.put (_h : TAt W B bo v U) (V : List (Ty × Value)) {g cap : Nat} {w3 : World} (hk : Keeps (Own2 bo v) W w3 ∨ Keeps (fun i => Own2 bo v i ∨ W.heap.size ≤ i) W w3) (hb : Blk w3 bo 45 [.slice (some ⟨g, 0, none⟩) (U.length + V.length) cap])
    (hown : w3.ownsRow B 47 4 (.slice (some ⟨g, 0, none⟩) (U.length + V.length) cap) (U.length + V.length) (flatU U ++ flatU V)) (hat : v.ownBlock = some g ∨ W.heap.size ≤ g) : TTo B bo v W (U ++ V) w3 := by
  refine ⟨.slice (some ⟨g, 0, none⟩) (U.length + V.length) cap, ⟨hb, by rw [List.length_append, flatU_app]; exact hown⟩, ?_, fun i hi => ?_⟩
  · rcases hk with hk | hk
    · exact hk
    · exact ⟨hk.os, hk.tape, hk.output, hk.size, fun i hi hn => hk.block i hi (fun hx => hx.elim hn (fun h => by omega))⟩
  · rcases hi with e | e
    · exact .inl (.inl e)
    · have e1 : g = i := by simpa [Value.ownBlock] using e
      subst e1
      exact hat.imp .inr id
end
theorem infoTyU : (Tryd.prog.info? 47).map (fun i => (i.zero, i.size, i.bytes)) = some (some (.agg #[.int .i64 0, .string ⟨#[]⟩, .int .i64 0, .slice none 0 0]), 4, 56) := by kernel_rfl
/-- The four cells behind the row's front. -/
theorem four_cells {W : World} {B : Nat} {te : TypeId} {g n m cap : Nat} {xs : List Value} {a b c d : Value} (h : W.ownsRow B te 4 (.slice (some ⟨g, 0, none⟩) (n + 1) cap) (n + 1) (xs ++ [a, b, c, d])) (hx : xs.length = m) :
    W.cell? ⟨g, m, none⟩ = some a ∧ W.cell? ⟨g, m + 1, none⟩ = some b ∧ W.cell? ⟨g, m + 2, none⟩ = some c ∧ W.cell? ⟨g, m + 3, none⟩ = some d ∧ True := by
  subst hx
  have hl : (xs ++ [a, b, c, d]).length = (n + 1) * 4 := h.1
  simp only [List.length_append, List.length_cons, List.length_nil] at hl
  refine ⟨?_, ?_, ?_, ?_, trivial⟩
  · rw [h.cellAt _ (by omega), List.getElem?_append_right (by omega)]; simp
  · rw [h.cellAt _ (by omega), List.getElem?_append_right (by omega)]; simp
  · rw [h.cellAt _ (by omega), List.getElem?_append_right (by omega)]; simp
  · rw [h.cellAt _ (by omega), List.getElem?_append_right (by omega)]; simp
/-- The types of a scheme. -/
def schemeP (ty : Ty) (preds : List Pred) : List Ty := ty :: preds.map Pred.ty
set_option maxRecDepth 100000 in
set_option maxHeartbeats 8000000 in
theorem scheme_any (W : World) (F : Nat → Prop) (B bo : Nat) (v : Value) (U : List (Ty × Value)) (hF : ∀ i, F i → i < B) (hB : B ≤ bo) (w : World) (hlo : ∀ i, Own2 bo v i → B ≤ i) (T : TTo B bo v W U w) (vars : Int) (preds : List Pred) (pv : Value) (ty : Ty) (av : Value)
    (hP : Sl W F Pred.d preds pv) (hT : TyC W F ty av) (hn : U.length + 1 + preds.length ≤ 4194304) :
    Calls Tryd.prog 56 #[.agg #[.int .i64 vars, pv, .int .i64 ty.kind, .string ty.name, .int .i64 ty.var, av], .pointer (some ⟨bo, 0, none⟩)] w (fun e w' => e = .returned (.tuple #[]) ∧ ∃ V, V.map Prod.fst = schemeP ty preds ∧ Good W F V ∧ TTo B bo v W (U ++ V) w') := by
  obtain ⟨it, hi0, hz0, hz1, hz2⟩ := info_parts infoTyU
  obtain ⟨Ap, cp, rfl, hpc, hpm, -⟩ := hP.form
  obtain ⟨At, ct, rfl, -, -, -⟩ := hT.form
  obtain ⟨bt, hbt⟩ : ∃ bt, w.heap.size = bt := ⟨_, rfl⟩
  obtain ⟨W0, hW0⟩ : ∃ W0, w.alloc (.cells #[.int .i64 vars, .slice Ap preds.length cp, .int .i64 ty.kind, .string ty.name, .int .i64 ty.var, .slice At ty.args.length ct] 59) = W0 := ⟨_, rfl⟩
  have hkw : Keeps (fun _ => False) w W0 := by rw [← hW0]; exact (Keeps.refl _ _).alloc _
  have hbx : Blk W0 bt 59 [.int .i64 vars, .slice Ap preds.length cp, .int .i64 ty.kind, .string ty.name, .int .i64 ty.var, .slice At ty.args.length ct] := by rw [← hW0, ← hbt]; exact Blk.new w _ [_, _, _, _, _, _]
  obtain ⟨v0, t0, hend, hlt0, hlo0⟩ := T.rebase hkw hB
  have hnt : ¬ Own2 bo v0 bt := fun h => by have := hlt0 bt h; omega
  have hkW : Keeps (Own2 bo v) W W0 := T.keeps.trans hkw (fun _ _ h => h.elim)
  have hfar : ∀ i, F i → ¬ Own2 bo v i := fun i hi => T.far hlo hF i hi
  have HP0 : Hid (Sl W0 F Pred.d preds (.slice Ap preds.length cp)) := hP.keeps hkW hfar
  have hBW : B ≤ W0.heap.size := Nat.le_trans hB (Nat.le_of_lt (t0.lt bo (.inl rfl)))
  obtain ⟨nU, hnU⟩ : ∃ nU, U.length = nU := ⟨_, rfl⟩
  have hown := t0.row
  rw [hnU] at hown
  obtain ⟨A0, c0, rfl⟩ := row_form hown
  have hnb : nU + 1 ≤ 4194304 := by omega
  have HFl : Hid ((flatU U).length = nU * 4) := by show _ = _; rw [flatU_len, hnU]
  have HMq : Hid (nU + 1 ≤ maxLen) := by show _ ≤ _; unfold maxLen; omega
  have HBq : Hid ((nU + 1) * 56 ≤ 140737488355328) := by show _ ≤ _; omega
  have HBZ := Lib.hid hBW
  have HOwn := Lib.hid hown
  have HBo : Hid (∀ X, Keeps (fun i => (Value.slice A0 nU c0).ownBlock = some i) W0 X → Blk X bo 45 [(Value.slice A0 nU c0)]) := fun X hk => t0.box.keeps hk t0.nV
  have HNg : Hid (∀ g, ((Value.slice A0 nU c0).ownBlock = some g ∨ W0.heap.size ≤ g) → ¬ g = bo) := fun g hg e => by
    subst e
    rcases hg with h | h
    · exact t0.nV h
    · have := t0.box.lt; omega
  have HPut : Hid (∀ (w3 : World) (g1 cap1 : Nat), Keeps (fun i => (Value.slice A0 nU c0).ownBlock = some i ∨ i = bo ∨ i = g1) W0 w3 → Blk w3 bo 45 [.slice (some ⟨g1, 0, none⟩) (nU + 1) cap1] → w3.ownsRow B 47 4 (.slice (some ⟨g1, 0, none⟩) (nU + 1) cap1) (nU + 1) (flatU U ++ [.int .i64 ty.kind, .string ty.name, .int .i64 ty.var, .slice At ty.args.length ct]) → ((Value.slice A0 nU c0).ownBlock = some g1 ∨ W0.heap.size ≤ g1) → TTo B bo (Value.slice A0 nU c0) W0 (U ++ [(ty, .slice At ty.args.length ct)]) w3) := fun w3 g1 cap1 q1 q2 q3 q4 => by
    subst hnU
    refine t0.put [(ty, .slice At ty.args.length ct)] (.inr (q1.mono (fun i _ hi => ?_))) q2 (by rw [show flatU [(ty, .slice At ty.args.length ct)] = [.int .i64 ty.kind, .string ty.name, .int .i64 ty.var, .slice At ty.args.length ct] from rfl]; exact q3) q4
    rcases hi with h | h | h
    · exact .inl (.inr h)
    · exact .inl (.inl h)
    · subst h
      exact q4.imp .inr id
  have hQ : Hid (∀ X, Keeps (fun i => (Value.slice A0 nU c0).ownBlock = some i) W0 X → (X.cell? ⟨bo, 0, none⟩ = some ((Value.slice A0 nU c0)) ∧ X.cell? ⟨bt, 2, none⟩ = some (.int .i64 ty.kind) ∧ X.cell? ⟨bt, 3, none⟩ = some (.string ty.name) ∧ X.cell? ⟨bt, 4, none⟩ = some (.int .i64 ty.var) ∧ X.cell? ⟨bt, 5, none⟩ = some (.slice At ty.args.length ct))) := fun X hk => by
    have hx := t0.box.keeps hk t0.nV
    have hy := hbx.keeps hk (fun e => hnt (.inr e))
    exact ⟨hx.cell (i := 0) rfl, hy.cell (i := 2) rfl, hy.cell (i := 3) rfl, hy.cell (i := 4) rfl, hy.cell (i := 5) rfl⟩
  have HBx : Hid (∀ X U', TTo B bo (Value.slice A0 nU c0) W0 U' X → Blk X bt 59 [.int .i64 vars, .slice Ap preds.length cp, .int .i64 ty.kind, .string ty.name, .int .i64 ty.var, .slice At ty.args.length ct]) := fun X U' hX => hbx.keeps hX.keeps hnt
  have HEnd := Lib.hid hend
  have HT := Lib.hid hT
  have HPW := Lib.hid hP
  have HF := Lib.hid hF
  have HB := Lib.hid hB
  have HLo := Lib.hid hlo0
  have HKW := Lib.hid hkW
  have HFar := Lib.hid hfar
  have HW0 := Lib.hid hW0
  have HBt := Lib.hid hbt
  have HN : Hid (nU + 1 + preds.length ≤ 4194304) := by show _ ≤ _; omega
  have HNU := Lib.hid hnU
  have k0 : (0 : Int) ≤ (nU : Int) := by omega
  have k1 : (nU : Int) < (nU : Int) + 1 := by omega
  have kp : preds.length ≤ 9223372036854775807 := by unfold maxLen at hpm; omega
  clear T hkw hbx t0 hend hlt0 hlo0 hnt hkW hfar hBW hown hP hT hF hB hlo hn hnb hW0 hbt hnU hpm hpc
  go_enter Tryd.func56, Tryd.ntmps56
  go_upto_region 1 with (fail)
  rw [HW0.out, HBt.out]
  go_cut [] from 5 to 11 (fun wd => TTo B bo (Value.slice A0 nU c0) W0 (U ++ [(ty, .slice At ty.args.length ct)]) wd)
  case first =>
    refine wp_region_noPanic ?_
    refine wp_region_till [7, 8] (fun X => X.cell? ⟨bo, 0, none⟩ = some ((Value.slice A0 nU c0)) ∧ X.cell? ⟨bt, 2, none⟩ = some (.int .i64 ty.kind) ∧ X.cell? ⟨bt, 3, none⟩ = some (.string ty.name) ∧ X.cell? ⟨bt, 4, none⟩ = some (.int .i64 ty.var) ∧ X.cell? ⟨bt, 5, none⟩ = some (.slice At ty.args.length ct)) (by kernel_rfl) ?_ (fun hE => ?_)
    · first | exact hQ.out _ hk1 | exact hQ.out _ (Keeps.mono (show Keeps (fun _ => False) W0 _ from (by repeat (first | (with_reducible exact Keeps.refl _ _) | (with_reducible assumption) | (with_reducible refine Keeps.drew ?_) | (with_reducible refine Keeps.drewN ?_ _) | (with_reducible refine Keeps.alloc ?_ _) | (with_reducible refine Keeps.trans ?_ (by assumption) (fun _ _ h => h))))) (fun _ _ h => h.elim))
    have hS := hE (by kernel_rfl)
    refine wpAnyT_take (i := 0) (oi := { dst := some 5, op := Op.load 45 (Operand.tmp 1), type := 45, pos := "iface.go:111", after := #[], guard := none }) (v := ?v1_0_1) rfl (by kernel_rfl) (fun _ _ _ h => h) (Or.inl ⟨by rfl, ?y1_0_1⟩) hS ?_
    case y1_0_1 => (intro w hSw; (try dsimp only at hSw); go_simp; try with_reducible rfl)
    try simp only [Act.put, List.setIfInBounds_toArray, List.set_cons_zero, List.set_cons_succ]
    refine wpAnyT_pure (i := 1) (oi := { dst := some 6, op := Op.fieldAddr 59 (Operand.tmp 2) 2, type := 0, pos := "iface.go:111", after := #[], guard := none }) (v := ?v1_1_2) rfl (by kernel_rfl) (fun _ _ _ h => h) (Or.inl ⟨by rfl, ?y1_1_2⟩) (fun _ => hS) ?_
    case y1_1_2 => (intro w hSw; go_simp; try with_reducible rfl)
    try simp only [Act.put, List.setIfInBounds_toArray, List.set_cons_zero, List.set_cons_succ]
    refine wpAnyT_take (i := 2) (oi := { dst := some 7, op := Op.load 47 (Operand.tmp 6), type := 47, pos := "iface.go:111", after := #[⟨1, .data⟩], guard := none }) (v := ?v1_2_3) rfl (by kernel_rfl) (fun _ _ _ h => h) (Or.inl ⟨by rfl, ?y1_2_3⟩) hS ?_
    case y1_2_3 => (intro w hSw; (try dsimp only at hSw); go_simp; try with_reducible rfl)
    try simp only [Act.put, List.setIfInBounds_toArray, List.set_cons_zero, List.set_cons_succ]
    refine wpAnyT_pure (i := 3) (oi := { dst := some 8, op := Op.call { callee := Callee.builtin Builtin.len, args := #[Operand.tmp 5], argTypes := #[45] }, type := 3, pos := "iface.go:111", after := #[⟨0, .data⟩], guard := none }) (v := ?v1_3_4) rfl (by kernel_rfl) (fun _ _ _ h => h) (Or.inl ⟨by rfl, ?y1_3_4⟩) (fun _ => hS) ?_
    case y1_3_4 => (intro w hSw; go_simp; try with_reducible rfl)
    try simp only [Act.put, List.setIfInBounds_toArray, List.set_cons_zero, List.set_cons_succ]
    refine wpAnyT_ready (rs := [4]) (by kernel_rfl) rfl ?_
    refine AllT.cons (o := { dst := some 9, op := Op.buildSlice 45 1 #[(0, Operand.const (Value.agg #[Value.int IntKind.i64 0, Value.string { data := #[] }, Value.int IntKind.i64 0, Value.slice none 0 0]))], type := 45, pos := "iface.go:111", after := #[], guard := none }) rfl (fun K hK => ?_) ?_
    · go_simp
      refine hK.out _ _ (fun _ => ?_) (fun hE => ?_)
      · first | exact hQ.out _ hk1 | exact hQ.out _ (Keeps.mono (show Keeps (fun _ => False) W0 _ from (by repeat (first | (with_reducible exact Keeps.refl _ _) | (with_reducible assumption) | (with_reducible refine Keeps.drew ?_) | (with_reducible refine Keeps.drewN ?_ _) | (with_reducible refine Keeps.alloc ?_ _) | (with_reducible refine Keeps.trans ?_ (by assumption) (fun _ _ h => h))))) (fun _ _ h => h.elim))
      have hS := hE (by kernel_rfl)
      clear hK K hE
      try simp only [Act.put, List.setIfInBounds_toArray, List.set_cons_zero, List.set_cons_succ]
      refine wpAnyT_ready (rs := [5]) (by kernel_rfl) rfl ?_
      refine AllT.cons (o := { dst := some 10, op := Op.call { callee := Callee.builtin Builtin.append, args := #[Operand.tmp 5, Operand.tmp 9], argTypes := #[45, 45] }, type := 45, pos := "iface.go:111", after := #[⟨0, .data⟩, ⟨4, .data⟩, ⟨0, .phase⟩, ⟨1, .phase⟩, ⟨2, .phase⟩, ⟨3, .phase⟩, ⟨4, .phase⟩], guard := none }) rfl (fun K hK => ?_) ?_
      · (refine step_append_kept2 (W0 := W0) rfl (.tmp 5) (.tmp 9) 45 rfl B 47 it _ 4 56 Tryd.underlying45 hi0 hz0 hz1 hz2 rfl (by decide) (Value.slice A0 nU c0) nU (flatU U) rfl HOwn.out (by repeat (first | (with_reducible exact Keeps.refl _ _) | (with_reducible assumption) | (with_reducible refine Keeps.drew ?_) | (with_reducible refine Keeps.drewN ?_ _) | (with_reducible refine Keeps.alloc ?_ _) | (with_reducible refine Keeps.trans ?_ (by assumption) (fun _ _ h => h)))) _ _ #[.int .i64 0, .string ⟨#[]⟩, .int .i64 0, .slice none 0 0] rfl rfl (by first | exact heap_new_at (by simp) | exact heap_new_at (w := W0) (by simp)) (by simp [Value.oneCell']) HMq.out HBq.out HBZ.out ?_; intro g1 cap1 w2 hown1 hk1 hkp1 hat1; have fc := four_cells hown1 HFl.out; have hb2 := HBo.out _ hk1; have hat1' : (Value.slice A0 nU c0).ownBlock = some g1 ∨ W0.heap.size ≤ g1 := hat1.imp id (fun h => Nat.le_trans (Keeps.size (show Keeps (fun _ => False) W0 _ from (by repeat (first | (with_reducible exact Keeps.refl _ _) | (with_reducible assumption) | (with_reducible refine Keeps.drew ?_) | (with_reducible refine Keeps.drewN ?_ _) | (with_reducible refine Keeps.alloc ?_ _) | (with_reducible refine Keeps.trans ?_ (by assumption) (fun _ _ h => h)))))) h); have ng := HNg.out g1 hat1')
        refine hK.out _ _ (fun _ => ?_) (fun hE => ?_)
        · first | exact hQ.out _ hk1 | exact hQ.out _ (Keeps.mono (show Keeps (fun _ => False) W0 _ from (by repeat (first | (with_reducible exact Keeps.refl _ _) | (with_reducible assumption) | (with_reducible refine Keeps.drew ?_) | (with_reducible refine Keeps.drewN ?_ _) | (with_reducible refine Keeps.alloc ?_ _) | (with_reducible refine Keeps.trans ?_ (by assumption) (fun _ _ h => h))))) (fun _ _ h => h.elim))
        have hS := hE (by kernel_rfl)
        clear hK K hE
        try simp only [Act.put, List.setIfInBounds_toArray, List.set_cons_zero, List.set_cons_succ]
        refine wpAnyT_pure (i := 6) (oi := { dst := some 11, op := Op.indexAddr 45 (Operand.tmp 10) (Operand.tmp 8), type := 0, pos := "iface.go:111", after := #[⟨5, .data⟩, ⟨3, .data⟩, ⟨0, .phase⟩, ⟨1, .phase⟩, ⟨2, .phase⟩, ⟨3, .phase⟩, ⟨4, .phase⟩, ⟨5, .phase⟩, ⟨8, .gcOnly .appendInPlace⟩], guard := none }) (v := ?v1_6_5) rfl (by kernel_rfl) (fun _ _ _ h => h) (Or.inl ⟨by rfl, ?y1_6_5⟩) (fun _ => hS) ?_
        case y1_6_5 => (intro w hSw; go_simp; try with_reducible rfl)
        try simp only [Act.put, List.setIfInBounds_toArray, List.set_cons_zero, List.set_cons_succ]
        refine wpAnyT_ready (rs := [7, 8]) (by kernel_rfl) rfl ?_
        refine AllT.cons (o := { dst := none, op := Op.store 47 (Operand.tmp 11) (Operand.tmp 7), type := 0, pos := "iface.go:111", after := #[⟨6, .data⟩, ⟨2, .data⟩, ⟨5, .chain⟩, ⟨0, .phase⟩, ⟨1, .phase⟩, ⟨2, .phase⟩, ⟨3, .phase⟩, ⟨4, .phase⟩, ⟨5, .phase⟩, ⟨8, .gcOnly .appendInPlace⟩], guard := none }) rfl (fun K hK => ?_) ?_
        · (have y0 := fc.1; have y1 := fc.2.1; have y2 := fc.2.2.1; have y3 := fc.2.2.2.1; have u0 := hown1.frozenAt (nU * 4); have u1 := hown1.frozenAt (nU * 4 + 1); have u2 := hown1.frozenAt (nU * 4 + 2); have u3 := hown1.frozenAt (nU * 4 + 3); go_simp)
          refine hK.out _ _ (fun he => Bool.noConfusion (show false = true from he)) (fun hE => ?_)
          clear hK K hE
          try simp only [Act.put, List.setIfInBounds_toArray, List.set_cons_zero, List.set_cons_succ]
          refine wpAnyT_ready (rs := [8]) (by kernel_rfl) rfl ?_
          refine AllT.cons (o := { dst := none, op := Op.store 45 (Operand.tmp 1) (Operand.tmp 10), type := 0, pos := "iface.go:111", after := #[⟨5, .data⟩, ⟨5, .chain⟩, ⟨7, .textOnly .appendInPlace⟩, ⟨0, .phase⟩, ⟨1, .phase⟩, ⟨2, .phase⟩, ⟨3, .phase⟩, ⟨4, .phase⟩, ⟨5, .phase⟩, ⟨6, .textOnly .appendInPlace⟩, ⟨7, .textOnly .appendInPlace⟩], guard := none }) rfl (fun K hK => ?_) ?_
          · (have hk7 : Keeps (· = g1) w2 ((((w2.setCell ⟨g1, nU * 4, none⟩ (.int .i64 ty.kind)).setCell ⟨g1, nU * 4 + 1, none⟩ (.string ty.name)).setCell ⟨g1, nU * 4 + 2, none⟩ (.int .i64 ty.var)).setCell ⟨g1, nU * 4 + 3, none⟩ (.slice At ty.args.length ct)) := ((((Keeps.refl (· = g1) w2).setCell (p := ⟨g1, nU * 4, none⟩) (fun _ => rfl) _).setCell (p := ⟨g1, nU * 4 + 1, none⟩) (fun _ => rfl) _).setCell (p := ⟨g1, nU * 4 + 2, none⟩) (fun _ => rfl) _).setCell (p := ⟨g1, nU * 4 + 3, none⟩) (fun _ => rfl) _; have hb7 := hb2.keeps hk7 (fun e => ng e.symm); have z0 := hb7.cell (i := 0) rfl; have z1 := hb7.free 0; go_simp)
            refine hK.out _ _ (fun he => Bool.noConfusion (show false = true from he)) (fun hE => ?_)
            clear hK K hE
            try simp only [Act.put, List.setIfInBounds_toArray, List.set_cons_zero, List.set_cons_succ]
            refine wpAnyT_done (by kernel_rfl) ?_ _
            refine NoPanic.normal ?_
            have hk7 : Keeps (· = g1) w2 ((((w2.setCell ⟨g1, nU * 4, none⟩ (.int .i64 ty.kind)).setCell ⟨g1, nU * 4 + 1, none⟩ (.string ty.name)).setCell ⟨g1, nU * 4 + 2, none⟩ (.int .i64 ty.var)).setCell ⟨g1, nU * 4 + 3, none⟩ (.slice At ty.args.length ct)) := ((((Keeps.refl (· = g1) w2).setCell (p := ⟨g1, nU * 4, none⟩) (fun _ => rfl) _).setCell (p := ⟨g1, nU * 4 + 1, none⟩) (fun _ => rfl) _).setCell (p := ⟨g1, nU * 4 + 2, none⟩) (fun _ => rfl) _).setCell (p := ⟨g1, nU * 4 + 3, none⟩) (fun _ => rfl) _
            have hk8 : Keeps (· = bo) ((((w2.setCell ⟨g1, nU * 4, none⟩ (.int .i64 ty.kind)).setCell ⟨g1, nU * 4 + 1, none⟩ (.string ty.name)).setCell ⟨g1, nU * 4 + 2, none⟩ (.int .i64 ty.var)).setCell ⟨g1, nU * 4 + 3, none⟩ (.slice At ty.args.length ct)) (((((w2.setCell ⟨g1, nU * 4, none⟩ (.int .i64 ty.kind)).setCell ⟨g1, nU * 4 + 1, none⟩ (.string ty.name)).setCell ⟨g1, nU * 4 + 2, none⟩ (.int .i64 ty.var)).setCell ⟨g1, nU * 4 + 3, none⟩ (.slice At ty.args.length ct)).setCell ⟨bo, 0, none⟩ (.slice (some ⟨g1, 0, none⟩) (nU + 1) cap1)) := (Keeps.refl (· = bo) _).setCell (p := ⟨bo, 0, none⟩) (fun _ => rfl) _
            have hbf := (hb2.keeps hk7 (fun e => ng e.symm)).set_ 0 (.slice (some ⟨g1, 0, none⟩) (nU + 1) cap1)
            have hof := own_keeps (own_four (ys := []) (u0 := .int .i64 ty.kind) (u1 := .string ty.name) (u2 := .int .i64 ty.var) (u3 := .slice At ty.args.length ct) (by rw [List.append_nil]; exact hown1) HFl.out) hk8 (fun i hi e => ng ((show g1 = i from by simpa [Value.ownBlock] using hi).trans e))
            have hkf : Keeps (fun i => (Value.slice A0 nU c0).ownBlock = some i ∨ i = bo ∨ i = g1) W0 _ := ((hk1.mono (Y := fun i => (Value.slice A0 nU c0).ownBlock = some i ∨ i = bo ∨ i = g1) (fun _ _ h => .inl h)).trans hk7 (fun i _ h => .inr (.inr h))).trans hk8 (fun i _ h => .inr (.inl h))
            rw [List.append_nil] at hof
            have HTo := Lib.hid (HPut.out _ g1 cap1 hkf hbf hof hat1')
            clear hown1 hk1 hkp1 hat1 hb2 fc ng hk7 hk8 hbf hof hkf hat1'
            go_wp2_with fail
            go_meet
            exact HTo.out
          exact AllT.nil
        refine AllT.cons (o := { dst := none, op := Op.store 45 (Operand.tmp 1) (Operand.tmp 10), type := 0, pos := "iface.go:111", after := #[⟨5, .data⟩, ⟨5, .chain⟩, ⟨7, .textOnly .appendInPlace⟩, ⟨0, .phase⟩, ⟨1, .phase⟩, ⟨2, .phase⟩, ⟨3, .phase⟩, ⟨4, .phase⟩, ⟨5, .phase⟩, ⟨6, .textOnly .appendInPlace⟩, ⟨7, .textOnly .appendInPlace⟩], guard := none }) rfl (fun K hK => ?_) ?_
        · (have z0 := hb2.cell (i := 0) rfl; have z1 := hb2.free 0; go_simp)
          refine hK.out _ _ (fun he => Bool.noConfusion (show false = true from he)) (fun hE => ?_)
          clear hK K hE
          try simp only [Act.put, List.setIfInBounds_toArray, List.set_cons_zero, List.set_cons_succ]
          refine wpAnyT_ready (rs := [7]) (by kernel_rfl) rfl ?_
          refine AllT.cons (o := { dst := none, op := Op.store 47 (Operand.tmp 11) (Operand.tmp 7), type := 0, pos := "iface.go:111", after := #[⟨6, .data⟩, ⟨2, .data⟩, ⟨5, .chain⟩, ⟨0, .phase⟩, ⟨1, .phase⟩, ⟨2, .phase⟩, ⟨3, .phase⟩, ⟨4, .phase⟩, ⟨5, .phase⟩, ⟨8, .gcOnly .appendInPlace⟩], guard := none }) rfl (fun K hK => ?_) ?_
          · (have hk8 : Keeps (· = bo) w2 (w2.setCell ⟨bo, 0, none⟩ (.slice (some ⟨g1, 0, none⟩) (nU + 1) cap1)) := (Keeps.refl (· = bo) w2).setCell (p := ⟨bo, 0, none⟩) (fun _ => rfl) _; have hown2 := own_keeps hown1 hk8 (fun i hi e => ng ((show g1 = i from by simpa [Value.ownBlock] using hi).trans e)); have fc2 := four_cells hown2 HFl.out; have y0 := fc2.1; have y1 := fc2.2.1; have y2 := fc2.2.2.1; have y3 := fc2.2.2.2.1; have u0 := hown2.frozenAt (nU * 4); have u1 := hown2.frozenAt (nU * 4 + 1); have u2 := hown2.frozenAt (nU * 4 + 2); have u3 := hown2.frozenAt (nU * 4 + 3); go_simp)
            refine hK.out _ _ (fun he => Bool.noConfusion (show false = true from he)) (fun hE => ?_)
            clear hK K hE
            try simp only [Act.put, List.setIfInBounds_toArray, List.set_cons_zero, List.set_cons_succ]
            refine wpAnyT_done (by kernel_rfl) ?_ _
            refine NoPanic.normal ?_
            have hk8 : Keeps (· = bo) w2 (w2.setCell ⟨bo, 0, none⟩ (.slice (some ⟨g1, 0, none⟩) (nU + 1) cap1)) := (Keeps.refl (· = bo) w2).setCell (p := ⟨bo, 0, none⟩) (fun _ => rfl) _
            have hk7 : Keeps (· = g1) (w2.setCell ⟨bo, 0, none⟩ (.slice (some ⟨g1, 0, none⟩) (nU + 1) cap1)) (((((w2.setCell ⟨bo, 0, none⟩ (.slice (some ⟨g1, 0, none⟩) (nU + 1) cap1)).setCell ⟨g1, nU * 4, none⟩ (.int .i64 ty.kind)).setCell ⟨g1, nU * 4 + 1, none⟩ (.string ty.name)).setCell ⟨g1, nU * 4 + 2, none⟩ (.int .i64 ty.var)).setCell ⟨g1, nU * 4 + 3, none⟩ (.slice At ty.args.length ct)) := ((((Keeps.refl (· = g1) (w2.setCell ⟨bo, 0, none⟩ (.slice (some ⟨g1, 0, none⟩) (nU + 1) cap1))).setCell (p := ⟨g1, nU * 4, none⟩) (fun _ => rfl) _).setCell (p := ⟨g1, nU * 4 + 1, none⟩) (fun _ => rfl) _).setCell (p := ⟨g1, nU * 4 + 2, none⟩) (fun _ => rfl) _).setCell (p := ⟨g1, nU * 4 + 3, none⟩) (fun _ => rfl) _
            have hbf := (hb2.set_ 0 (.slice (some ⟨g1, 0, none⟩) (nU + 1) cap1)).keeps hk7 (fun e => ng e.symm)
            have hof := own_four (ys := []) (u0 := .int .i64 ty.kind) (u1 := .string ty.name) (u2 := .int .i64 ty.var) (u3 := .slice At ty.args.length ct) (by rw [List.append_nil]; exact own_keeps hown1 hk8 (fun i hi e => ng ((show g1 = i from by simpa [Value.ownBlock] using hi).trans e))) HFl.out
            have hkf : Keeps (fun i => (Value.slice A0 nU c0).ownBlock = some i ∨ i = bo ∨ i = g1) W0 _ := ((hk1.mono (Y := fun i => (Value.slice A0 nU c0).ownBlock = some i ∨ i = bo ∨ i = g1) (fun _ _ h => .inl h)).trans hk8 (fun i _ h => .inr (.inl h))).trans hk7 (fun i _ h => .inr (.inr h))
            rw [List.append_nil] at hof
            have HTo := Lib.hid (HPut.out _ g1 cap1 hkf hbf hof hat1')
            clear hown1 hk1 hkp1 hat1 hb2 fc ng hk7 hk8 hbf hof hkf hat1'
            go_wp2_with fail
            go_meet
            exact HTo.out
          exact AllT.nil
        exact AllT.nil
      exact AllT.nil
    exact AllT.nil
  case rest =>
    obtain ⟨w9, hw9⟩ : ∃ w9, w9 = wc := ⟨_, rfl⟩
    rw [← hw9] at hcut ⊢
    clear hw9 k0 k1
    have HT9 := Lib.hid hcut
    have hb9 := HBx.out _ _ hcut
    have x1 := hb9.cell (i := 1) rfl
    clear hcut hb9
    go_wp2_with fail
    go_loopw [15] (fun i wr => ∃ (j : Nat) (V : List (Ty × Value)), j ≤ preds.length ∧ .int .i64 (j : Int) = i ∧ V.length = j ∧ V.map Prod.fst = (preds.take j).map Pred.ty ∧ Hid (Good W F V ∧ TTo B bo (Value.slice A0 nU c0) W0 (U ++ [(ty, .slice At ty.args.length ct)] ++ V) wr)) (fun i _ => preds.length - (intOf i).toNat)
    case atStart => exact ⟨0, [], Nat.zero_le _, rfl, rfl, rfl, (fun p hp => by cases hp), by rw [List.append_nil]; exact HT9.out⟩
    case round =>
      obtain ⟨j, V, hj, rfl, hVl, hV, hT⟩ := hrel
      by_cases hlt : j < preds.length
      · obtain ⟨gg, off, va, hA, hgF, d0, d1, d2, d3, d4, s0, s1⟩ := Pred.get HPW.out hlt
        have hfar := hT.out.2.far HLo.out HF.out gg hgF
        have hfar0 := HFar.out gg hgF
        have htk := List.take_succ_eq_append_getElem hlt
        obtain ⟨x, hx⟩ : ∃ x, preds[j] = x := ⟨_, rfl⟩
        rw [hx] at d0 d1 d2 d3 s0 s1 htk
        obtain ⟨Aa, ca, rfl, -, -, -⟩ := s1.form
        subst hA
        have c0' := hT.out.2.keeps.cell (HKW.out.cell d0 hfar0) hfar
        have c1' := hT.out.2.keeps.cell (HKW.out.cell d1 hfar0) hfar
        have c2' := hT.out.2.keeps.cell (HKW.out.cell d2 hfar0) hfar
        have c3' := hT.out.2.keeps.cell (HKW.out.cell d3 hfar0) hfar
        have c4' := hT.out.2.keeps.cell (HKW.out.cell d4 hfar0) hfar
        clear d0 d1 d2 d3 d4 hfar hfar0 hgF
        have k2 : (0 : Int) ≤ (j : Int) := by omega
        have k3 : (j : Int) < (preds.length : Int) := by omega
        obtain ⟨bq, hbq⟩ : ∃ bq, wr.heap.size = bq := ⟨_, rfl⟩
        obtain ⟨W1, hW1⟩ : ∃ W1, wr.alloc (.cells #[.string x.cls, .int .i64 x.ty.kind, .string x.ty.name, .int .i64 x.ty.var, .slice Aa x.ty.args.length ca] 104) = W1 := ⟨_, rfl⟩
        have hkw1 : Keeps (fun _ => False) wr W1 := by rw [← hW1]; exact (Keeps.refl _ _).alloc _
        have hbx1 : Blk W1 bq 104 [.string x.cls, .int .i64 x.ty.kind, .string x.ty.name, .int .i64 x.ty.var, .slice Aa x.ty.args.length ca] := by rw [← hW1, ← hbq]; exact Blk.new wr _ [_, _, _, _, _]
        have hTT := hT.out.2
        have hGV := hT.out.1
        obtain ⟨UV, hUV⟩ : ∃ UV, U ++ [(ty, .slice At ty.args.length ct)] ++ V = UV := ⟨_, rfl⟩
        have hUVl : UV.length + 1 ≤ 4194304 := by
          have := HN.out
          have := HNU.out
          rw [← hUV, List.length_append, List.length_append]; simp only [List.length_cons, List.length_nil]; omega
        rw [hUV] at hTT
        obtain ⟨v1, t1, hend1, hlt1, hlo1⟩ := hTT.rebase hkw1 HB.out
        have hnt1 : ¬ Own2 bo v1 bq := fun h => by have := hlt1 bq h; omega
        have hBW : B ≤ W1.heap.size := Nat.le_trans HB.out (Nat.le_of_lt (t1.lt bo (.inl rfl)))
        have HRel : Hid (∀ X, TTo B bo v1 W1 (UV ++ [(x.ty, .slice Aa x.ty.args.length ca)]) X → (V ++ [(x.ty, Value.slice Aa x.ty.args.length ca)]).length = j + 1 ∧ (V ++ [(x.ty, Value.slice Aa x.ty.args.length ca)]).map Prod.fst = (preds.take (j + 1)).map Pred.ty ∧ Good W F (V ++ [(x.ty, Value.slice Aa x.ty.args.length ca)]) ∧ TTo B bo (Value.slice A0 nU c0) W0 (U ++ [(ty, .slice At ty.args.length ct)] ++ (V ++ [(x.ty, .slice Aa x.ty.args.length ca)])) X) := fun X hX => by
          refine ⟨by rw [List.length_append, hVl]; rfl, by rw [htk, List.map_append, List.map_append, hV]; rfl, fun p hp => ?_, ?_⟩
          · rcases List.mem_append.1 hp with hp | hp
            · exact hGV p hp
            · rw [List.mem_singleton] at hp; subst hp; exact s1
          · rw [← List.append_assoc, hUV]; exact hend1 X _ hX
        clear htk hVl hV hT hTT hGV hend1 hlt1 hlo1 s0 s1 hkw1 hx
        obtain ⟨nU, hnU⟩ : ∃ nU, UV.length = nU := ⟨_, rfl⟩
        have hown := t1.row
        rw [hnU] at hown
        obtain ⟨A0, c0, rfl⟩ := row_form hown
        have hnb : nU + 1 ≤ 4194304 := by omega
        have HFl : Hid ((flatU UV).length = nU * 4) := by show _ = _; rw [flatU_len, hnU]
        have HMq : Hid (nU + 1 ≤ maxLen) := by show _ ≤ _; unfold maxLen; omega
        have HBq : Hid ((nU + 1) * 56 ≤ 140737488355328) := by show _ ≤ _; omega
        have HBZ := Lib.hid hBW
        have HOwn := Lib.hid hown
        have HBo : Hid (∀ X, Keeps (fun i => (Value.slice A0 nU c0).ownBlock = some i) W1 X → Blk X bo 45 [(Value.slice A0 nU c0)]) := fun X hk => t1.box.keeps hk t1.nV
        have HNg : Hid (∀ g, ((Value.slice A0 nU c0).ownBlock = some g ∨ W1.heap.size ≤ g) → ¬ g = bo) := fun g hg e => by
          subst e
          rcases hg with h | h
          · exact t1.nV h
          · have := t1.box.lt; omega
        have HPut : Hid (∀ (w3 : World) (g1 cap1 : Nat), Keeps (fun i => (Value.slice A0 nU c0).ownBlock = some i ∨ i = bo ∨ i = g1) W1 w3 → Blk w3 bo 45 [.slice (some ⟨g1, 0, none⟩) (nU + 1) cap1] → w3.ownsRow B 47 4 (.slice (some ⟨g1, 0, none⟩) (nU + 1) cap1) (nU + 1) (flatU UV ++ [.int .i64 x.ty.kind, .string x.ty.name, .int .i64 x.ty.var, .slice Aa x.ty.args.length ca]) → ((Value.slice A0 nU c0).ownBlock = some g1 ∨ W1.heap.size ≤ g1) → TTo B bo (Value.slice A0 nU c0) W1 (UV ++ [(x.ty, .slice Aa x.ty.args.length ca)]) w3) := fun w3 g1 cap1 q1 q2 q3 q4 => by
          subst hnU
          refine t1.put [(x.ty, .slice Aa x.ty.args.length ca)] (.inr (q1.mono (fun i _ hi => ?_))) q2 (by rw [show flatU [(x.ty, .slice Aa x.ty.args.length ca)] = [.int .i64 x.ty.kind, .string x.ty.name, .int .i64 x.ty.var, .slice Aa x.ty.args.length ca] from rfl]; exact q3) q4
          rcases hi with h | h | h
          · exact .inl (.inr h)
          · exact .inl (.inl h)
          · subst h
            exact q4.imp .inr id
        have hQ : Hid (∀ X, Keeps (fun i => (Value.slice A0 nU c0).ownBlock = some i) W1 X → (X.cell? ⟨bo, 0, none⟩ = some ((Value.slice A0 nU c0)) ∧ X.cell? ⟨bq, 1, none⟩ = some (.int .i64 x.ty.kind) ∧ X.cell? ⟨bq, 2, none⟩ = some (.string x.ty.name) ∧ X.cell? ⟨bq, 3, none⟩ = some (.int .i64 x.ty.var) ∧ X.cell? ⟨bq, 4, none⟩ = some (.slice Aa x.ty.args.length ca))) := fun X hk => by
          have hx := t1.box.keeps hk t1.nV
          have hy := hbx1.keeps hk (fun e => hnt1 (.inr e))
          exact ⟨hx.cell (i := 0) rfl, hy.cell (i := 1) rfl, hy.cell (i := 2) rfl, hy.cell (i := 3) rfl, hy.cell (i := 4) rfl⟩
        have HW1 := Lib.hid hW1
        have HBq' := Lib.hid hbq
        have k0 : (0 : Int) ≤ (nU : Int) := by omega
        have k1 : (nU : Int) < (nU : Int) + 1 := by omega
        clear hW1 hbq hbx1 t1 hnt1 hBW hown hnU hUV hUVl hnb
        go_upto_region 5 with (fail)
        rw [HW1.out, HBq'.out]
        clear c0' c1' c2' c3' c4' k2 k3
        refine wp_region_noPanic ?_
        refine wp_region_till [7, 8] (fun X => X.cell? ⟨bo, 0, none⟩ = some ((Value.slice A0 nU c0)) ∧ X.cell? ⟨bq, 1, none⟩ = some (.int .i64 x.ty.kind) ∧ X.cell? ⟨bq, 2, none⟩ = some (.string x.ty.name) ∧ X.cell? ⟨bq, 3, none⟩ = some (.int .i64 x.ty.var) ∧ X.cell? ⟨bq, 4, none⟩ = some (.slice Aa x.ty.args.length ca)) (by kernel_rfl) ?_ (fun hE => ?_)
        · first | exact hQ.out _ hk1 | exact hQ.out _ (Keeps.mono (show Keeps (fun _ => False) W1 _ from (by repeat (first | (with_reducible exact Keeps.refl _ _) | (with_reducible assumption) | (with_reducible refine Keeps.drew ?_) | (with_reducible refine Keeps.drewN ?_ _) | (with_reducible refine Keeps.alloc ?_ _) | (with_reducible refine Keeps.trans ?_ (by assumption) (fun _ _ h => h))))) (fun _ _ h => h.elim))
        have hS := hE (by kernel_rfl)
        refine wpAnyT_take (i := 0) (oi := { dst := some 19, op := Op.load 45 (Operand.tmp 1), type := 45, pos := "iface.go:113", after := #[], guard := none }) (v := ?v5_0_1) rfl (by kernel_rfl) (fun _ _ _ h => h) (Or.inl ⟨by rfl, ?y5_0_1⟩) hS ?_
        case y5_0_1 => (intro w hSw; (try dsimp only at hSw); go_simp; try with_reducible rfl)
        try simp only [Act.put, List.setIfInBounds_toArray, List.set_cons_zero, List.set_cons_succ]
        refine wpAnyT_pure (i := 1) (oi := { dst := some 20, op := Op.fieldAddr 104 (Operand.tmp 4) 1, type := 0, pos := "iface.go:113", after := #[], guard := none }) (v := ?v5_1_2) rfl (by kernel_rfl) (fun _ _ _ h => h) (Or.inl ⟨by rfl, ?y5_1_2⟩) (fun _ => hS) ?_
        case y5_1_2 => (intro w hSw; go_simp; try with_reducible rfl)
        try simp only [Act.put, List.setIfInBounds_toArray, List.set_cons_zero, List.set_cons_succ]
        refine wpAnyT_take (i := 2) (oi := { dst := some 21, op := Op.load 47 (Operand.tmp 20), type := 47, pos := "iface.go:113", after := #[⟨1, .data⟩], guard := none }) (v := ?v5_2_3) rfl (by kernel_rfl) (fun _ _ _ h => h) (Or.inl ⟨by rfl, ?y5_2_3⟩) hS ?_
        case y5_2_3 => (intro w hSw; (try dsimp only at hSw); go_simp; try with_reducible rfl)
        try simp only [Act.put, List.setIfInBounds_toArray, List.set_cons_zero, List.set_cons_succ]
        refine wpAnyT_pure (i := 3) (oi := { dst := some 22, op := Op.call { callee := Callee.builtin Builtin.len, args := #[Operand.tmp 19], argTypes := #[45] }, type := 3, pos := "iface.go:113", after := #[⟨0, .data⟩], guard := none }) (v := ?v5_3_4) rfl (by kernel_rfl) (fun _ _ _ h => h) (Or.inl ⟨by rfl, ?y5_3_4⟩) (fun _ => hS) ?_
        case y5_3_4 => (intro w hSw; go_simp; try with_reducible rfl)
        try simp only [Act.put, List.setIfInBounds_toArray, List.set_cons_zero, List.set_cons_succ]
        refine wpAnyT_ready (rs := [4]) (by kernel_rfl) rfl ?_
        refine AllT.cons (o := { dst := some 23, op := Op.buildSlice 45 1 #[(0, Operand.const (Value.agg #[Value.int IntKind.i64 0, Value.string { data := #[] }, Value.int IntKind.i64 0, Value.slice none 0 0]))], type := 45, pos := "iface.go:113", after := #[], guard := none }) rfl (fun K hK => ?_) ?_
        · go_simp
          refine hK.out _ _ (fun _ => ?_) (fun hE => ?_)
          · first | exact hQ.out _ hk1 | exact hQ.out _ (Keeps.mono (show Keeps (fun _ => False) W1 _ from (by repeat (first | (with_reducible exact Keeps.refl _ _) | (with_reducible assumption) | (with_reducible refine Keeps.drew ?_) | (with_reducible refine Keeps.drewN ?_ _) | (with_reducible refine Keeps.alloc ?_ _) | (with_reducible refine Keeps.trans ?_ (by assumption) (fun _ _ h => h))))) (fun _ _ h => h.elim))
          have hS := hE (by kernel_rfl)
          clear hK K hE
          try simp only [Act.put, List.setIfInBounds_toArray, List.set_cons_zero, List.set_cons_succ]
          refine wpAnyT_ready (rs := [5]) (by kernel_rfl) rfl ?_
          refine AllT.cons (o := { dst := some 24, op := Op.call { callee := Callee.builtin Builtin.append, args := #[Operand.tmp 19, Operand.tmp 23], argTypes := #[45, 45] }, type := 45, pos := "iface.go:113", after := #[⟨0, .data⟩, ⟨4, .data⟩, ⟨0, .phase⟩, ⟨1, .phase⟩, ⟨2, .phase⟩, ⟨3, .phase⟩, ⟨4, .phase⟩], guard := none }) rfl (fun K hK => ?_) ?_
          · (refine step_append_kept2 (W0 := W1) rfl (.tmp 19) (.tmp 23) 45 rfl B 47 it _ 4 56 Tryd.underlying45 hi0 hz0 hz1 hz2 rfl (by decide) (Value.slice A0 nU c0) nU (flatU UV) rfl HOwn.out (by repeat (first | (with_reducible exact Keeps.refl _ _) | (with_reducible assumption) | (with_reducible refine Keeps.drew ?_) | (with_reducible refine Keeps.drewN ?_ _) | (with_reducible refine Keeps.alloc ?_ _) | (with_reducible refine Keeps.trans ?_ (by assumption) (fun _ _ h => h)))) _ _ #[.int .i64 0, .string ⟨#[]⟩, .int .i64 0, .slice none 0 0] rfl rfl (by first | exact heap_new_at (by simp) | exact heap_new_at (w := W1) (by simp)) (by simp [Value.oneCell']) HMq.out HBq.out HBZ.out ?_; intro g1 cap1 w2 hown1 hk1 hkp1 hat1; have fc := four_cells hown1 HFl.out; have hb2 := HBo.out _ hk1; have hat1' : (Value.slice A0 nU c0).ownBlock = some g1 ∨ W1.heap.size ≤ g1 := hat1.imp id (fun h => Nat.le_trans (Keeps.size (show Keeps (fun _ => False) W1 _ from (by repeat (first | (with_reducible exact Keeps.refl _ _) | (with_reducible assumption) | (with_reducible refine Keeps.drew ?_) | (with_reducible refine Keeps.drewN ?_ _) | (with_reducible refine Keeps.alloc ?_ _) | (with_reducible refine Keeps.trans ?_ (by assumption) (fun _ _ h => h)))))) h); have ng := HNg.out g1 hat1')
            refine hK.out _ _ (fun _ => ?_) (fun hE => ?_)
            · first | exact hQ.out _ hk1 | exact hQ.out _ (Keeps.mono (show Keeps (fun _ => False) W1 _ from (by repeat (first | (with_reducible exact Keeps.refl _ _) | (with_reducible assumption) | (with_reducible refine Keeps.drew ?_) | (with_reducible refine Keeps.drewN ?_ _) | (with_reducible refine Keeps.alloc ?_ _) | (with_reducible refine Keeps.trans ?_ (by assumption) (fun _ _ h => h))))) (fun _ _ h => h.elim))
            have hS := hE (by kernel_rfl)
            clear hK K hE
            try simp only [Act.put, List.setIfInBounds_toArray, List.set_cons_zero, List.set_cons_succ]
            refine wpAnyT_pure (i := 6) (oi := { dst := some 25, op := Op.indexAddr 45 (Operand.tmp 24) (Operand.tmp 22), type := 0, pos := "iface.go:113", after := #[⟨5, .data⟩, ⟨3, .data⟩, ⟨0, .phase⟩, ⟨1, .phase⟩, ⟨2, .phase⟩, ⟨3, .phase⟩, ⟨4, .phase⟩, ⟨5, .phase⟩, ⟨8, .gcOnly .appendInPlace⟩], guard := none }) (v := ?v5_6_5) rfl (by kernel_rfl) (fun _ _ _ h => h) (Or.inl ⟨by rfl, ?y5_6_5⟩) (fun _ => hS) ?_
            case y5_6_5 => (intro w hSw; go_simp; try with_reducible rfl)
            try simp only [Act.put, List.setIfInBounds_toArray, List.set_cons_zero, List.set_cons_succ]
            refine wpAnyT_ready (rs := [7, 8]) (by kernel_rfl) rfl ?_
            refine AllT.cons (o := { dst := none, op := Op.store 47 (Operand.tmp 25) (Operand.tmp 21), type := 0, pos := "iface.go:113", after := #[⟨6, .data⟩, ⟨2, .data⟩, ⟨5, .chain⟩, ⟨0, .phase⟩, ⟨1, .phase⟩, ⟨2, .phase⟩, ⟨3, .phase⟩, ⟨4, .phase⟩, ⟨5, .phase⟩, ⟨8, .gcOnly .appendInPlace⟩], guard := none }) rfl (fun K hK => ?_) ?_
            · (have y0 := fc.1; have y1 := fc.2.1; have y2 := fc.2.2.1; have y3 := fc.2.2.2.1; have u0 := hown1.frozenAt (nU * 4); have u1 := hown1.frozenAt (nU * 4 + 1); have u2 := hown1.frozenAt (nU * 4 + 2); have u3 := hown1.frozenAt (nU * 4 + 3); go_simp)
              refine hK.out _ _ (fun he => Bool.noConfusion (show false = true from he)) (fun hE => ?_)
              clear hK K hE
              try simp only [Act.put, List.setIfInBounds_toArray, List.set_cons_zero, List.set_cons_succ]
              refine wpAnyT_ready (rs := [8]) (by kernel_rfl) rfl ?_
              refine AllT.cons (o := { dst := none, op := Op.store 45 (Operand.tmp 1) (Operand.tmp 24), type := 0, pos := "iface.go:113", after := #[⟨5, .data⟩, ⟨5, .chain⟩, ⟨7, .textOnly .appendInPlace⟩, ⟨0, .phase⟩, ⟨1, .phase⟩, ⟨2, .phase⟩, ⟨3, .phase⟩, ⟨4, .phase⟩, ⟨5, .phase⟩, ⟨6, .textOnly .appendInPlace⟩, ⟨7, .textOnly .appendInPlace⟩], guard := none }) rfl (fun K hK => ?_) ?_
              · (have hk7 : Keeps (· = g1) w2 ((((w2.setCell ⟨g1, nU * 4, none⟩ (.int .i64 x.ty.kind)).setCell ⟨g1, nU * 4 + 1, none⟩ (.string x.ty.name)).setCell ⟨g1, nU * 4 + 2, none⟩ (.int .i64 x.ty.var)).setCell ⟨g1, nU * 4 + 3, none⟩ (.slice Aa x.ty.args.length ca)) := ((((Keeps.refl (· = g1) w2).setCell (p := ⟨g1, nU * 4, none⟩) (fun _ => rfl) _).setCell (p := ⟨g1, nU * 4 + 1, none⟩) (fun _ => rfl) _).setCell (p := ⟨g1, nU * 4 + 2, none⟩) (fun _ => rfl) _).setCell (p := ⟨g1, nU * 4 + 3, none⟩) (fun _ => rfl) _; have hb7 := hb2.keeps hk7 (fun e => ng e.symm); have z0 := hb7.cell (i := 0) rfl; have z1 := hb7.free 0; go_simp)
                refine hK.out _ _ (fun he => Bool.noConfusion (show false = true from he)) (fun hE => ?_)
                clear hK K hE
                try simp only [Act.put, List.setIfInBounds_toArray, List.set_cons_zero, List.set_cons_succ]
                refine wpAnyT_done (by kernel_rfl) ?_ _
                refine NoPanic.normal ?_
                have hk7 : Keeps (· = g1) w2 ((((w2.setCell ⟨g1, nU * 4, none⟩ (.int .i64 x.ty.kind)).setCell ⟨g1, nU * 4 + 1, none⟩ (.string x.ty.name)).setCell ⟨g1, nU * 4 + 2, none⟩ (.int .i64 x.ty.var)).setCell ⟨g1, nU * 4 + 3, none⟩ (.slice Aa x.ty.args.length ca)) := ((((Keeps.refl (· = g1) w2).setCell (p := ⟨g1, nU * 4, none⟩) (fun _ => rfl) _).setCell (p := ⟨g1, nU * 4 + 1, none⟩) (fun _ => rfl) _).setCell (p := ⟨g1, nU * 4 + 2, none⟩) (fun _ => rfl) _).setCell (p := ⟨g1, nU * 4 + 3, none⟩) (fun _ => rfl) _
                have hk8 : Keeps (· = bo) ((((w2.setCell ⟨g1, nU * 4, none⟩ (.int .i64 x.ty.kind)).setCell ⟨g1, nU * 4 + 1, none⟩ (.string x.ty.name)).setCell ⟨g1, nU * 4 + 2, none⟩ (.int .i64 x.ty.var)).setCell ⟨g1, nU * 4 + 3, none⟩ (.slice Aa x.ty.args.length ca)) (((((w2.setCell ⟨g1, nU * 4, none⟩ (.int .i64 x.ty.kind)).setCell ⟨g1, nU * 4 + 1, none⟩ (.string x.ty.name)).setCell ⟨g1, nU * 4 + 2, none⟩ (.int .i64 x.ty.var)).setCell ⟨g1, nU * 4 + 3, none⟩ (.slice Aa x.ty.args.length ca)).setCell ⟨bo, 0, none⟩ (.slice (some ⟨g1, 0, none⟩) (nU + 1) cap1)) := (Keeps.refl (· = bo) _).setCell (p := ⟨bo, 0, none⟩) (fun _ => rfl) _
                have hbf := (hb2.keeps hk7 (fun e => ng e.symm)).set_ 0 (.slice (some ⟨g1, 0, none⟩) (nU + 1) cap1)
                have hof := own_keeps (own_four (ys := []) (u0 := .int .i64 x.ty.kind) (u1 := .string x.ty.name) (u2 := .int .i64 x.ty.var) (u3 := .slice Aa x.ty.args.length ca) (by rw [List.append_nil]; exact hown1) HFl.out) hk8 (fun i hi e => ng ((show g1 = i from by simpa [Value.ownBlock] using hi).trans e))
                have hkf : Keeps (fun i => (Value.slice A0 nU c0).ownBlock = some i ∨ i = bo ∨ i = g1) W1 _ := ((hk1.mono (Y := fun i => (Value.slice A0 nU c0).ownBlock = some i ∨ i = bo ∨ i = g1) (fun _ _ h => .inl h)).trans hk7 (fun i _ h => .inr (.inr h))).trans hk8 (fun i _ h => .inr (.inl h))
                rw [List.append_nil] at hof
                have HTo := Lib.hid (HPut.out _ g1 cap1 hkf hbf hof hat1')
                clear hown1 hk1 hkp1 hat1 hb2 fc ng hk7 hk8 hbf hof hkf hat1'
                have HR := Lib.hid (HRel.out _ HTo.out)
                clear HTo
                go_wp2_with fail
                go_roundw
                case rel => exact ⟨j + 1, _, by omega, by go_num, HR.out.1, HR.out.2.1, HR.out.2.2⟩
                case measure => simp [intOf]; omega
              exact AllT.nil
            refine AllT.cons (o := { dst := none, op := Op.store 45 (Operand.tmp 1) (Operand.tmp 24), type := 0, pos := "iface.go:113", after := #[⟨5, .data⟩, ⟨5, .chain⟩, ⟨7, .textOnly .appendInPlace⟩, ⟨0, .phase⟩, ⟨1, .phase⟩, ⟨2, .phase⟩, ⟨3, .phase⟩, ⟨4, .phase⟩, ⟨5, .phase⟩, ⟨6, .textOnly .appendInPlace⟩, ⟨7, .textOnly .appendInPlace⟩], guard := none }) rfl (fun K hK => ?_) ?_
            · (have z0 := hb2.cell (i := 0) rfl; have z1 := hb2.free 0; go_simp)
              refine hK.out _ _ (fun he => Bool.noConfusion (show false = true from he)) (fun hE => ?_)
              clear hK K hE
              try simp only [Act.put, List.setIfInBounds_toArray, List.set_cons_zero, List.set_cons_succ]
              refine wpAnyT_ready (rs := [7]) (by kernel_rfl) rfl ?_
              refine AllT.cons (o := { dst := none, op := Op.store 47 (Operand.tmp 25) (Operand.tmp 21), type := 0, pos := "iface.go:113", after := #[⟨6, .data⟩, ⟨2, .data⟩, ⟨5, .chain⟩, ⟨0, .phase⟩, ⟨1, .phase⟩, ⟨2, .phase⟩, ⟨3, .phase⟩, ⟨4, .phase⟩, ⟨5, .phase⟩, ⟨8, .gcOnly .appendInPlace⟩], guard := none }) rfl (fun K hK => ?_) ?_
              · (have hk8 : Keeps (· = bo) w2 (w2.setCell ⟨bo, 0, none⟩ (.slice (some ⟨g1, 0, none⟩) (nU + 1) cap1)) := (Keeps.refl (· = bo) w2).setCell (p := ⟨bo, 0, none⟩) (fun _ => rfl) _; have hown2 := own_keeps hown1 hk8 (fun i hi e => ng ((show g1 = i from by simpa [Value.ownBlock] using hi).trans e)); have fc2 := four_cells hown2 HFl.out; have y0 := fc2.1; have y1 := fc2.2.1; have y2 := fc2.2.2.1; have y3 := fc2.2.2.2.1; have u0 := hown2.frozenAt (nU * 4); have u1 := hown2.frozenAt (nU * 4 + 1); have u2 := hown2.frozenAt (nU * 4 + 2); have u3 := hown2.frozenAt (nU * 4 + 3); go_simp)
                refine hK.out _ _ (fun he => Bool.noConfusion (show false = true from he)) (fun hE => ?_)
                clear hK K hE
                try simp only [Act.put, List.setIfInBounds_toArray, List.set_cons_zero, List.set_cons_succ]
                refine wpAnyT_done (by kernel_rfl) ?_ _
                refine NoPanic.normal ?_
                have hk8 : Keeps (· = bo) w2 (w2.setCell ⟨bo, 0, none⟩ (.slice (some ⟨g1, 0, none⟩) (nU + 1) cap1)) := (Keeps.refl (· = bo) w2).setCell (p := ⟨bo, 0, none⟩) (fun _ => rfl) _
                have hk7 : Keeps (· = g1) (w2.setCell ⟨bo, 0, none⟩ (.slice (some ⟨g1, 0, none⟩) (nU + 1) cap1)) (((((w2.setCell ⟨bo, 0, none⟩ (.slice (some ⟨g1, 0, none⟩) (nU + 1) cap1)).setCell ⟨g1, nU * 4, none⟩ (.int .i64 x.ty.kind)).setCell ⟨g1, nU * 4 + 1, none⟩ (.string x.ty.name)).setCell ⟨g1, nU * 4 + 2, none⟩ (.int .i64 x.ty.var)).setCell ⟨g1, nU * 4 + 3, none⟩ (.slice Aa x.ty.args.length ca)) := ((((Keeps.refl (· = g1) (w2.setCell ⟨bo, 0, none⟩ (.slice (some ⟨g1, 0, none⟩) (nU + 1) cap1))).setCell (p := ⟨g1, nU * 4, none⟩) (fun _ => rfl) _).setCell (p := ⟨g1, nU * 4 + 1, none⟩) (fun _ => rfl) _).setCell (p := ⟨g1, nU * 4 + 2, none⟩) (fun _ => rfl) _).setCell (p := ⟨g1, nU * 4 + 3, none⟩) (fun _ => rfl) _
                have hbf := (hb2.set_ 0 (.slice (some ⟨g1, 0, none⟩) (nU + 1) cap1)).keeps hk7 (fun e => ng e.symm)
                have hof := own_four (ys := []) (u0 := .int .i64 x.ty.kind) (u1 := .string x.ty.name) (u2 := .int .i64 x.ty.var) (u3 := .slice Aa x.ty.args.length ca) (by rw [List.append_nil]; exact own_keeps hown1 hk8 (fun i hi e => ng ((show g1 = i from by simpa [Value.ownBlock] using hi).trans e))) HFl.out
                have hkf : Keeps (fun i => (Value.slice A0 nU c0).ownBlock = some i ∨ i = bo ∨ i = g1) W1 _ := ((hk1.mono (Y := fun i => (Value.slice A0 nU c0).ownBlock = some i ∨ i = bo ∨ i = g1) (fun _ _ h => .inl h)).trans hk8 (fun i _ h => .inr (.inl h))).trans hk7 (fun i _ h => .inr (.inr h))
                rw [List.append_nil] at hof
                have HTo := Lib.hid (HPut.out _ g1 cap1 hkf hbf hof hat1')
                clear hown1 hk1 hkp1 hat1 hb2 fc ng hk7 hk8 hbf hof hkf hat1'
                have HR := Lib.hid (HRel.out _ HTo.out)
                clear HTo
                go_wp2_with fail
                go_roundw
                case rel => exact ⟨j + 1, _, by omega, by go_num, HR.out.1, HR.out.2.1, HR.out.2.2⟩
                case measure => simp [intOf]; omega
              exact AllT.nil
            exact AllT.nil
          exact AllT.nil
        exact AllT.nil
      · obtain rfl : j = preds.length := by omega
        have k2 : ¬ ((preds.length : Nat) : Int) < (preds.length : Int) := by omega
        rw [List.take_of_length_le (Nat.le_refl _)] at hV
        have HX : Hid (∃ V', V'.map Prod.fst = schemeP ty preds ∧ Good W F V' ∧ TTo B bo v W (U ++ V') wr) := by
          refine ⟨(ty, .slice At ty.args.length ct) :: V, by rw [List.map_cons, hV]; rfl, fun p hp => ?_, HEnd.out _ _ ?_⟩
          · rcases List.mem_cons.1 hp with hp | hp
            · subst hp; exact HT.out
            · exact hT.out.1 p hp
          · have h := hT.out.2
            rwa [List.append_assoc] at h
        clear hT hV hVl
        go_wp2_with fail
        go_end0
        exact ⟨rfl, HX.out⟩
end If
end Go.Proofs.YtcbkihplchdhhaaDoor
