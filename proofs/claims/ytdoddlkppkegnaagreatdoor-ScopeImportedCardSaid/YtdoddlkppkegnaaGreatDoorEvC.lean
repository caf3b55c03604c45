/- The evaluator's operations, all of them, do what the model's do. No conditions. -/
import Derived.Test.YtdoddlkppkegnaaGreatDoorEvZ
namespace Go.Proofs.YtdoddlkppkegnaaGreatDoor.Ev
open Go Go.RowKit
set_option linter.unusedSimpArgs false
set_option linter.unusedVariables false
section
variable {sy : Nat → Value} {N0 : Par} {W0 : World} {P : Program} {G : Nat} {e : Env} {m : M} {nx : Nat} {W : World}
theorem appA_ok : ∀ (vs : List Value) (l l' : AV) (vs' : List Value) {K : AV → Bool}, RL sy e l vs → RL sy e l' vs' → appA l l' K = true → ∃ r, K r = true ∧ RL sy e r (vs ++ vs')
  | [], l, l', vs', K, h, h', hk => by
    cases h
    exact ⟨l', hk, h'⟩
  | v :: vs, l, l', vs', K, h, h', hk => by
    cases h with
    | cons hx hl =>
      rename_i x l
      obtain ⟨r, h1, h2⟩ := appA_ok vs l l' vs' (K := fun r => K (.cons x r)) hl h' hk
      exact ⟨_, h1, .cons hx h2⟩
theorem op_call_static (f : FuncId) (args : Array Operand) (ts : Array TypeId) : OpOk P sy N0 W0 G (cOp P G (.call { callee := .value (.func f), args, argTypes := ts })) (.call { callee := .value (.func f), args, argTypes := ts }) := by
  simp only [cOp, BX.f, undF_eq, infoF_eq, funF_eq]
  intro call hcall a m nx K KP hb e act W hG hst hops Y Z hK hZ o ho
  have hb' : (cOpds G args.toList).k a (fun l => call f l m nx K KP) = true := hb
  obtain ⟨l, h1, h2⟩ := cOpds_ok hG hops args.toList (by intro x hx; simp [Op.operands, Call.operands]; exact .inr (by simpa using hx)) hb'
  have := hcall N0 W0 f l m nx K KP h1 e _ W hG hst h2 Y Z hK hZ
  have e1 : (execOp act.eval o).run P W = (callFunc f (args.toList.map act.eval).toArray).run P W := by
    simp [execOp, ho, resolve, Deferred.ofValue, invoke, Act.eval]
    congr 2
    exact Array.ext' (by simp)
  rw [e1]
  exact this
theorem op_call_value (x : Operand) (hx : ∀ f, x ≠ .func f) (args : Array Operand) (ts : Array TypeId) : OpOk P sy N0 W0 G (cOp P G (.call { callee := .value x, args, argTypes := ts })) (.call { callee := .value x, args, argTypes := ts }) := by
  have e0 : cOp P G (.call { callee := .value x, args, argTypes := ts }) = ⟨fun call a m nx K KP => (cOpd G x).k a fun v => asFn v fun f x c => (cOpds G args.toList).k a fun l => appA l c fun l => appA x l fun l => call f l m nx K KP⟩ := by
    cases x <;> first | exact absurd rfl (hx _) | simp only [cOp, BX.f, undF_eq, infoF_eq, funF_eq]
  rw [e0]
  intro call hcall a m nx K KP hb e act W hG hst hops Y Z hK hZ o ho
  have hb' : (cOpd G x).k a (fun v => asFn v fun f x c => (cOpds G args.toList).k a fun l => appA l c fun l => appA x l fun l => call f l m nx K KP) = true := hb
  obtain ⟨v, h1, h2⟩ := cOpd_ok hG hops (x := x) (by simp [Op.operands, Call.operands]) hb'
  obtain ⟨f, xs, cs, rfl, h3⟩ := asFn_yes h1
  obtain ⟨l, h4, h5⟩ := cOpds_ok hG hops args.toList (by intro y hy; simp [Op.operands, Call.operands]; exact .inr (by simpa using hy)) h3
  generalize hc : act.eval x = cv at h2
  cases h2 with
  | fn hxs hcs =>
    obtain ⟨l1, h6, h7⟩ := appA_ok _ _ _ _ h5 hcs h4
    obtain ⟨l2, h8, h9⟩ := appA_ok _ _ _ _ hxs h7 h6
    have := hcall N0 W0 f l2 m nx K KP h8 e _ W hG hst h9 Y Z hK hZ
    rename_i xv cvs
    have e1 : (execOp act.eval o).run P W = (callFunc f (xv ++ (args.toList.map act.eval ++ cvs)).toArray).run P W := by
      simp [execOp, ho, hc, resolve, Deferred.ofValue, invoke]
      congr 2
      apply Array.ext'
      simp
    rw [e1]
    exact this
theorem op_convert (s d : TypeId) (x : Operand) : OpOk P sy N0 W0 G (cOp P G (.convert s d x)) (.convert s d x) := by
  cases hs : P.underlying s with
  | none =>
    have e1 : cOp P G (.convert s d x) = xNo := by
      cases hd : P.underlying d with
      | none => simp only [cOp, hs, hd, BX.f, undF_eq, infoF_eq, funF_eq]
      | some dd => cases dd <;> simp only [cOp, hs, hd, BX.f, undF_eq, infoF_eq, funF_eq]
    rw [e1]; exact xNo_ok
  | some ds =>
    cases hd : P.underlying d with
    | none =>
      have e1 : cOp P G (.convert s d x) = xNo := by
        cases ds <;> simp only [cOp, hs, hd, BX.f, undF_eq, infoF_eq, funF_eq]
      rw [e1]; exact xNo_ok
    | some dd =>
      cases dd with
      | int k => exact op_convert_int hs hd x
      | string =>
        cases ds with
        | int j => exact op_convert_rune hs hd x
        | string => exact op_convert_str hs hd x
        | _ =>
          have e1 : cOp P G (.convert s d x) = xNo := by simp only [cOp, hs, hd, BX.f, undF_eq, infoF_eq, funF_eq]
          rw [e1]; exact xNo_ok
      | _ =>
        have e1 : cOp P G (.convert s d x) = xNo := by
          cases ds <;> simp only [cOp, hs, hd, BX.f, undF_eq, infoF_eq, funF_eq]
        rw [e1]; exact xNo_ok
theorem no_of {op : Op} (h : cOp P G op = xNo) : OpOk P sy N0 W0 G (cOp P G op) op := by rw [h]; exact xNo_ok
theorem op_ok : ∀ op : Op, OpOk P sy N0 W0 G (cOp P G op) op
  | .move x => op_move x
  | .assign x => op_assign x
  | .pick c x y => op_pick c x y
  | .alloc t => op_alloc t
  | .box t x => op_box t x
  | .build t ps => op_build t ps
  | .buildSlice t n ps => op_buildSlice t n ps
  | .insert .. => no_of (by simp only [cOp, BX.f, undF_eq, infoF_eq, funF_eq])
  | .load t x => op_load t x
  | .store t x v => op_store t x v
  | .ready _ => no_of (by simp only [cOp, BX.f, undF_eq, infoF_eq, funF_eq])
  | .waits _ => no_of (by simp only [cOp, BX.f, undF_eq, infoF_eq, funF_eq])
  | .nilCheck x => op_nilCheck x
  | .binOp op t x y yt => op_binOp op t x y yt
  | .unOp .neg t x => op_neg t x
  | .unOp .not t x => op_not t x
  | .unOp .xor t x => no_of (by simp only [cOp, BX.f, undF_eq, infoF_eq, funF_eq])
  | .unOp .plus t x => no_of (by simp only [cOp, BX.f, undF_eq, infoF_eq, funF_eq])
  | .convert s d x => op_convert s d x
  | .sliceToArrayPointer .. => no_of (by simp only [cOp, BX.f, undF_eq, infoF_eq, funF_eq])
  | .makeInterface t x => op_makeInterface t x
  | .makeFunc (.func f) x c => op_makeFunc f x c
  | .makeFunc (.method _) x c => no_of (by simp only [cOp, BX.f, undF_eq, infoF_eq, funF_eq])
  | .makeFunc (.methodOf ..) x c => no_of (by simp only [cOp, BX.f, undF_eq, infoF_eq, funF_eq])
  | .makeFunc (.via ..) x c => no_of (by simp only [cOp, BX.f, undF_eq, infoF_eq, funF_eq])
  | .makeFunc (.yield _) x c => no_of (by simp only [cOp, BX.f, undF_eq, infoF_eq, funF_eq])
  | .makeMap .. => no_of (by simp only [cOp, BX.f, undF_eq, infoF_eq, funF_eq])
  | .makeChan .. => no_of (by simp only [cOp, BX.f, undF_eq, infoF_eq, funF_eq])
  | .makeSlice t l c => op_makeSlice t l c
  | .slice t x lo hi mx => op_slice t x lo hi mx
  | .fieldAddr t x i => op_fieldAddr t x i
  | .field t x i => op_field t x i
  | .indexAddr t x i => op_indexAddr t x i
  | .index t x i => op_index t x i
  | .lookup .. => no_of (by simp only [cOp, BX.f, undF_eq, infoF_eq, funF_eq])
  | .mapUpdate .. => no_of (by simp only [cOp, BX.f, undF_eq, infoF_eq, funF_eq])
  | .mapEntry .. => no_of (by simp only [cOp, BX.f, undF_eq, infoF_eq, funF_eq])
  | .entryStore .. => no_of (by simp only [cOp, BX.f, undF_eq, infoF_eq, funF_eq])
  | .range .. => no_of (by simp only [cOp, BX.f, undF_eq, infoF_eq, funF_eq])
  | .next .. => no_of (by simp only [cOp, BX.f, undF_eq, infoF_eq, funF_eq])
  | .entry .. => no_of (by simp only [cOp, BX.f, undF_eq, infoF_eq, funF_eq])
  | .typeAssert x s t ok => op_typeAssert x s t ok
  | .extract x i => op_extract x i
  | .call { callee := .value (.func f), args, argTypes } => op_call_static f args argTypes
  | .call { callee := .value (.tmp t), args, argTypes } => op_call_value (.tmp t) (fun _ h => by cases h) args argTypes
  | .call { callee := .value (.const v), args, argTypes } => op_call_value (.const v) (fun _ h => by cases h) args argTypes
  | .call { callee := .value (.global g), args, argTypes } => op_call_value (.global g) (fun _ h => by cases h) args argTypes
  | .call { callee := .invoke .., args, argTypes } => no_of (by simp only [cOp, BX.f, undF_eq, infoF_eq, funF_eq])
  | .call { callee := .builtin b, args, argTypes } => by
    cases b with
    | append => exact op_append args argTypes
    | len => exact op_len args argTypes
    | min => exact op_min args argTypes
    | max => exact op_max args argTypes
    | clear => exact op_clear args argTypes
    | _ => exact no_of (by simp only [cOp, BX.f, undF_eq, infoF_eq, funF_eq])
  | .go _ => no_of (by simp only [cOp, BX.f, undF_eq, infoF_eq, funF_eq])
  | .defer _ => no_of (by simp only [cOp, BX.f, undF_eq, infoF_eq, funF_eq])
  | .panic x => op_panic x
  | .send .. => no_of (by simp only [cOp, BX.f, undF_eq, infoF_eq, funF_eq])
  | .recv .. => no_of (by simp only [cOp, BX.f, undF_eq, infoF_eq, funF_eq])
  | .select .. => no_of (by simp only [cOp, BX.f, undF_eq, infoF_eq, funF_eq])
end
end Go.Proofs.YtdoddlkppkegnaaGreatDoor.Ev
