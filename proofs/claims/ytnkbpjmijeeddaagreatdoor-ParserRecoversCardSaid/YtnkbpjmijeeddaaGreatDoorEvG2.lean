/- The evaluator, a further part. No conditions. -/
import Derived.Test.YtnkbpjmijeeddaaGreatDoorEvG1
import Derived.Lib.Strings
import Derived.Deep.AppendSrc
section
/- The evaluator's operations that touch no memory do what the model's do, second part. No conditions. -/
namespace Go.Proofs.YtnkbpjmijeeddaaGreatDoor.Ev
set_option linter.unusedVariables false
open Go Go.RowKit
set_option linter.unusedSimpArgs false
section
variable {P : Program} {sy : Nat → Value} {e : Env}
theorem equal_deep (t : TypeId) (x y : Value) : Op.equal t x y = Op.equalIn (9999 + 1) t x y := rfl
theorem isC_const {x y : Operand} (h : (isC x || isC y) = true) : (∃ v, x = .const v) ∨ ∃ v, y = .const v := by
  cases x <;> cases y <;> first | exact .inl ⟨_, rfl⟩ | exact .inr ⟨_, rfl⟩ | cases h
/-- Equality of what is neither a number nor a string. -/
theorem bin_other {t : TypeId} {x y : Operand} {u v : Value} {r : Bool} {W : World} (hg : ∀ op, (eqGuard op t x y u v).run P W = .ok () W)
    (h1 : binOp .eql t u v = (do pure (.bool (← Op.equal t u v)))) (h2 : binOp .neq t u v = (do pure (.bool (!(← Op.equal t u v))))) (he : ∀ d, (Op.equalIn (d + 1) t u v).run P W = .ok r W) :
    (binSem .eql t x y u v).run P W = .ok (.bool r) W ∧ (binSem .neq t x y u v).run P W = .ok (.bool (!r)) W := by
  have he' := he 9999
  constructor
  · simp only [binSem, Sem.run_bind, hg, Result.andThen_ok, h1, equal_deep, he', Sem.run_pure]
  · simp only [binSem, Sem.run_bind, hg, Result.andThen_ok, h2, equal_deep, he', Sem.run_pure]
theorem guard_ok {t : TypeId} {x y : Operand} {u v : Value} {W : World} (hu : (∀ l, u ≠ .agg l)) (h : u ≠ .nilIface ∨ v ≠ .nilIface) (op : BinOp) : (eqGuard op t x y u v).run P W = .ok () W := by
  have key : eqGuard op t x y u v = pure () := by
    cases u with
    | agg l => exact absurd rfl (hu l)
    | nilIface =>
      cases v with
      | nilIface => rcases h with h | h <;> exact absurd rfl h
      | _ => cases op <;> rfl
    | _ => cases op <;> rfl
  rw [key]; rfl
theorem eqAt_run {t : TypeId} {d : TypeDesc} {c : Bool} {x y : AV} {r : Bool} {u v : Value} (hd : P.underlying t = some d) (h : eqAt d c x y = some r) (hu : RV sy e x u) (hv : RV sy e y v) {xo yo : Operand} (hc : c = true → (isC xo || isC yo) = true) (W : World) :
    (binSem .eql t xo yo u v).run P W = .ok (.bool r) W ∧ (binSem .neq t xo yo u v).run P W = .ok (.bool (!r)) W := by
  cases d with
  | bool =>
    cases x with
    | bool a => cases y with
      | bool b => cases h; cases hu; cases hv; exact bin_other (guard_ok (fun _ h => by cases h) (.inl (fun h => by cases h))) rfl rfl (fun d => run_equalIn_bool' _ _ _ _ _ hd)
      | _ => cases h
    | _ => cases h
  | int k =>
    cases x with
    | int j a => cases y with
      | int i b =>
        obtain ⟨hk, rfl⟩ := ifB_some h
        obtain rfl := sameK_yes hk
        cases hu; cases hv
        rw [guard_int, guard_int, eqI_eq]
        constructor <;> simp [binOp, Op.intCmp] <;> rfl
      | _ => cases h
    | _ => cases h
  | string =>
    cases x with
    | str a => cases y with
      | str b =>
        cases h
        cases hu with | str hs => cases hv with | str hr =>
        rw [guard_str, guard_str, eqNs_str hs hr]
        constructor <;> simp [binOp, Op.stringOp]
      | _ => cases h
    | _ => cases h
  | pointer el =>
    cases x with
    | nil k => cases k with
      | p => cases y with
        | nil k => cases k <;> cases h; cases hu; cases hv; exact bin_other (guard_ok (fun _ h => by cases h) (by first | (left; intro h; cases h; done) | (right; intro h; cases h; done))) rfl rfl (fun d => by simp [Op.equalIn, run_underlying hd])
        | ref p o => cases h; cases hu; cases hv; exact bin_other (guard_ok (fun _ h => by cases h) (by first | (left; intro h; cases h; done) | (right; intro h; cases h; done))) rfl rfl (fun d => by simp [Op.equalIn, run_underlying hd])
        | _ => cases h
      | _ => cases y <;> cases h
    | ref p o => cases y with
      | nil k => cases k <;> cases h; cases hu; cases hv; exact bin_other (guard_ok (fun _ h => by cases h) (by first | (left; intro h; cases h; done) | (right; intro h; cases h; done))) rfl rfl (fun d => by simp [Op.equalIn, run_underlying hd])
      | _ => cases h
    | _ => cases h
  | slice el =>
    cases x with
    | nil k => cases k with
      | s => cases y with
        | nil k => cases k <;> cases h; cases hu; cases hv; exact bin_other (guard_ok (fun _ h => by cases h) (by first | (left; intro h; cases h; done) | (right; intro h; cases h; done))) rfl rfl (fun d => by simp [Op.equalIn, run_underlying hd])
        | slc p o es n c => cases h; cases hu; cases hv; exact bin_other (guard_ok (fun _ h => by cases h) (by first | (left; intro h; cases h; done) | (right; intro h; cases h; done))) rfl rfl (fun d => by simp [Op.equalIn, run_underlying hd])
        | _ => cases h
      | _ => cases y <;> cases h
    | slc p o es n c => cases y with
      | nil k => cases k <;> cases h; cases hu; cases hv; exact bin_other (guard_ok (fun _ h => by cases h) (by first | (left; intro h; cases h; done) | (right; intro h; cases h; done))) rfl rfl (fun d => by simp [Op.equalIn, run_underlying hd])
      | _ => cases h
    | _ => cases h
  | func ps rs vr =>
    cases x with
    | nil k => cases k with
      | f => cases y with
        | nil k => cases k <;> cases h; cases hu; cases hv; exact bin_other (guard_ok (fun _ h => by cases h) (by first | (left; intro h; cases h; done) | (right; intro h; cases h; done))) rfl rfl (fun d => by simp [Op.equalIn, run_underlying hd])
        | fn f x c => cases h; cases hu; cases hv; exact bin_other (guard_ok (fun _ h => by cases h) (by first | (left; intro h; cases h; done) | (right; intro h; cases h; done))) rfl rfl (fun d => by simp [Op.equalIn, run_underlying hd])
        | _ => cases h
      | _ => cases y <;> cases h
    | fn f x c => cases y with
      | nil k => cases k <;> cases h; cases hu; cases hv; exact bin_other (guard_ok (fun _ h => by cases h) (by first | (left; intro h; cases h; done) | (right; intro h; cases h; done))) rfl rfl (fun d => by simp [Op.equalIn, run_underlying hd])
      | _ => cases h
    | _ => cases h
  | interface ms =>
    cases x with
    | nil k => cases k with
      | i => cases y with
        | nil k =>
          cases k <;> first | (cases h; done) | skip
          obtain ⟨hc', rfl⟩ := ifB_some h
          cases hu; cases hv
          refine bin_other (fun op => ?_) rfl rfl (fun d => by simp [Op.equalIn, run_underlying hd])
          rcases isC_const (hc hc') with ⟨w, rfl⟩ | ⟨w, rfl⟩ <;> cases op <;> simp [eqGuard]
        | ifc t v => cases h; cases hu; cases hv; exact bin_other (guard_ok (fun _ h => by cases h) (by first | (left; intro h; cases h; done) | (right; intro h; cases h; done))) rfl rfl (fun d => by simp [Op.equalIn, run_underlying hd])
        | _ => cases h
      | _ => cases y <;> cases h
    | ifc t v => cases y with
      | nil k => cases k <;> cases h; cases hu; cases hv; exact bin_other (guard_ok (fun _ h => by cases h) (by first | (left; intro h; cases h; done) | (right; intro h; cases h; done))) rfl rfl (fun d => by simp [Op.equalIn, run_underlying hd])
      | _ => cases h
    | _ => cases h
  | _ => cases h
theorem b2_eq {t : TypeId} {c neg : Bool} {op : BinOp} (hop : op = if neg then .neq else .eql) : B2Ok P op t c (b2Eq P c t neg) := by
  cases hu : P.underlying t with
  | none => simp only [b2Eq, hu, B2.f, undF_eq, infoF_eq, funF_eq]; exact b2No
  | some d =>
    by_cases hst : ∃ fs, d = .struct fs
    · obtain ⟨fs, rfl⟩ := hst
      cases hg : Program.eqGuardType P P.depth t with
      | true => simp only [b2Eq, hu, hg, B2.f, undF_eq, infoF_eq, funF_eq]; exact b2No
      | false =>
        simp only [b2Eq, hu, hg, B2.f, undF_eq, infoF_eq, funF_eq]
        intro u v K hb sy e u' v' hru hrv
        obtain ⟨r, h1, h2⟩ := ifO_yes hb
        rw [frcB_eq] at h2
        have hrun := fun W => eqT_run 9 10000 (by omega) t u v r u' v' h1 hru hrv W
        have hshape : (∃ a, u' = .agg a) ∧ (∃ b, v' = .agg b) := by
          have h1' := h1
          unfold eqT at h1'
          try simp only [undF_eq, infoF_eq, funF_eq] at h1'
          rw [hu] at h1'
          cases u <;> cases v <;> first | (cases h1'; done) | (cases hru; cases hrv; exact ⟨⟨_, rfl⟩, ⟨_, rfl⟩⟩)
        obtain ⟨⟨a, rfl⟩, ⟨b, rfl⟩⟩ := hshape
        refine ⟨_, _, h2, .bool _, fun W x y _ => ?_⟩
        subst hop
        cases neg with
        | true =>
          simp only [binSem, if_true, Sem.run_bind, run_eqGuard_agg _ _ _ _ _ _ _ hg, Result.andThen_ok, run_neq_struct, hrun]
          simp
        | false =>
          simp only [binSem, Bool.false_eq_true, if_false, Sem.run_bind, run_eqGuard_agg _ _ _ _ _ _ _ hg, Result.andThen_ok, run_eql_struct, hrun]
          simp
    · have e1 : b2Eq P c t neg = ⟨fun x y K => ifO (eqAt d c x y) (fun r => frcB (Bool.xor neg r) fun r => K (.bool r)) false⟩ := by
        simp only [b2Eq, hu, B2.f, undF_eq, infoF_eq, funF_eq]
        cases d <;> first | rfl | exact absurd ⟨_, rfl⟩ hst
      rw [e1]
      intro u v K hb sy e u' v' hru hrv
      obtain ⟨r, h1, h2⟩ := ifO_yes hb
      rw [frcB_eq] at h2
      refine ⟨_, _, h2, .bool _, fun W x y hc => ?_⟩
      have := eqAt_run hu h1 hru hrv (xo := x) (yo := y) hc W
      subst hop
      cases neg with
      | true => simpa using this.2
      | false => simpa using this.1
theorem b2_all (t : TypeId) (c : Bool) : ∀ op : BinOp, B2Ok P op t c (cBin P c t op)
  | .add => b2_add
  | .sub => b2_sub
  | .mul => b2_mul
  | .quo => b2_quo
  | .rem => b2_rem
  | .and => b2_and
  | .or => b2_or
  | .xor => b2_xor
  | .andNot => b2_andNot
  | .shl => b2_shl
  | .shr => b2_shr
  | .eql => b2_eq rfl
  | .neq => b2_eq rfl
  | .lss => b2_lss
  | .leq => b2_leq
  | .gtr => b2_gtr
  | .geq => b2_geq
end

section
variable {sy : Nat → Value} {N0 : Par} {W0 : World} {P : Program} {G : Nat}
theorem op_binOp (op : BinOp) (t : TypeId) (x y : Operand) (yt : TypeId) : OpOk P sy N0 W0 G (cOp P G (.binOp op t x y yt)) (.binOp op t x y yt) := by
  simp only [cOp, BX.f, undF_eq, infoF_eq, funF_eq]
  refine xP_ok ?_
  intro a K h e act hG hops
  obtain ⟨v, h1, h2⟩ := cOpd_ok hG hops (x := x) (by simp [Op.operands]) h
  obtain ⟨w, h3, h4⟩ := cOpd_ok hG hops (x := y) (by simp [Op.operands]) h1
  obtain ⟨r, r', h5, h6, h7⟩ := b2_all t _ op v w K h3 sy e _ _ h2 h4
  refine ⟨r, r', h5, h6, fun o W ho => ?_⟩
  have := h7 W x y id
  simp only [binSem] at this
  simp only [execOp, ho, Sem.run_bind] at this ⊢
  rw [this]; simp
theorem op_neg (t : TypeId) (x : Operand) : OpOk P sy N0 W0 G (cOp P G (.unOp .neg t x)) (.unOp .neg t x) := by
  simp only [cOp, BX.f, undF_eq, infoF_eq, funF_eq]
  refine xP_ok ?_
  intro a K h e act hG hops
  obtain ⟨v, h1, h2⟩ := cOpd_ok hG hops (x := x) (by simp [Op.operands]) h
  obtain ⟨k, n, rfl, h3⟩ := asInt_yes h1
  rw [wrapK_eq] at h3
  generalize hc : act.eval x = cv at h2
  cases h2
  refine ⟨_, _, h3, .int _ _, fun o W ho => ?_⟩
  simp only [execOp, ho, hc, Op.unary, Op.intArith]
  rfl
theorem op_not (t : TypeId) (x : Operand) : OpOk P sy N0 W0 G (cOp P G (.unOp .not t x)) (.unOp .not t x) := by
  simp only [cOp, BX.f, undF_eq, infoF_eq, funF_eq]
  refine xP_ok ?_
  intro a K h e act hG hops
  obtain ⟨v, h1, h2⟩ := cOpd_ok hG hops (x := x) (by simp [Op.operands]) h
  obtain ⟨b, rfl, h3⟩ := asBool_yes h1
  rw [frcB_eq] at h3
  generalize hc : act.eval x = cv at h2
  cases h2
  exact ⟨_, _, h3, .bool _, fun o W ho => by simp [execOp, ho, hc, Op.unary]⟩
theorem cPart_ok {t : TypeId} {off : Nat} {l : AV} {K : AV → Bool} {e : Env} {vs : List Value} (h : (cPart P t off).f l K = true) (hl : RL sy e l vs) : ∃ x v, K x = true ∧ RV sy e x v ∧ ∀ W, (part t vs.toArray off).run P W = .ok v W := by
  cases ha : isAgg P t with
  | none => simp only [cPart, ha, B1.f, undF_eq, infoF_eq, funF_eq] at h; cases h
  | some b =>
    cases hs : sizeAt P t with
    | none => cases b <;> simp only [cPart, ha, hs, B1.f, undF_eq, infoF_eq, funF_eq] at h <;> cases h
    | some s =>
      cases b with
      | true =>
        simp only [cPart, ha, hs, B1.f, undF_eq, infoF_eq, funF_eq] at h
        obtain ⟨l1, h1, h2⟩ := hl.get off h
        obtain ⟨l2, h3, h4, _⟩ := h2.part s h1
        refine ⟨_, _, h3, .agg h4, fun W => ?_⟩
        simp [part, isAgg_run ha, sizeAt_run hs]
      | false =>
        simp only [cPart, ha, hs, B1.f, undF_eq, infoF_eq, funF_eq] at h
        obtain ⟨l1, h1, h2⟩ := hl.get off h
        obtain ⟨x, l2, rfl, h3⟩ := asCons_yes h1
        generalize hd : List.drop off vs = ds at h2
        cases h2 with
        | cons hx hl' =>
          rename_i v' vs'
          have hi : vs[off]? = some v' := by rw [← List.head?_drop, hd]; rfl
          exact ⟨x, v', h3, hx, fun W => by simp [part, isAgg_run ha, hi]⟩
theorem op_field (t : TypeId) (x : Operand) (i : Nat) : OpOk P sy N0 W0 G (cOp P G (.field t x i)) (.field t x i) := by
  cases hu : P.underlying t with
  | none => simp only [cOp, hu, BX.f, undF_eq, infoF_eq, funF_eq]; exact xNo_ok
  | some d =>
    by_cases hst : ∃ fs, d = .struct fs
    · obtain ⟨fs, rfl⟩ := hst
      cases hf : fs.toList[i]? with
      | none => simp only [cOp, hu, hf, BX.f, undF_eq, infoF_eq, funF_eq]; exact xNo_ok
      | some f =>
        simp only [cOp, hu, hf, BX.f, undF_eq, infoF_eq, funF_eq]
        refine xP_ok ?_
        intro a K h e act hG hops
        obtain ⟨v, h1, h2⟩ := cOpd_ok hG hops (x := x) (by simp [Op.operands]) h
        obtain ⟨l, rfl, h3⟩ := asAgg_yes h1
        generalize hc : act.eval x = cv at h2
        cases h2 with
        | agg hl =>
          obtain ⟨y, v, h4, h5, h6⟩ := cPart_ok h3 hl
          have hf' : fs[i]? = some f := by simpa using hf
          exact ⟨y, v, h4, h5, fun o W ho => by simp [execOp, ho, hc, Instr.field, run_underlying hu, hf', asAgg, Go.asAgg, h6]⟩
    · have e1 : cOp P G (.field t x i) = xNo := by
        simp only [cOp, hu, BX.f, undF_eq, infoF_eq, funF_eq]
        cases d <;> first | rfl | exact absurd ⟨_, rfl⟩ hst
      rw [e1]; exact xNo_ok
theorem op_fieldAddr (t : TypeId) (x : Operand) (i : Nat) : OpOk P sy N0 W0 G (cOp P G (.fieldAddr t x i)) (.fieldAddr t x i) := by
  cases hu : P.underlying t with
  | none => simp only [cOp, hu, BX.f, undF_eq, infoF_eq, funF_eq]; exact xNo_ok
  | some d =>
    by_cases hst : ∃ fs, d = .struct fs
    · obtain ⟨fs, rfl⟩ := hst
      cases hf : fs.toList[i]? with
      | none => simp only [cOp, hu, hf, BX.f, undF_eq, infoF_eq, funF_eq]; exact xNo_ok
      | some f =>
        cases hs : sizeAt P f.type with
        | none => simp only [cOp, hu, hf, hs, BX.f, undF_eq, infoF_eq, funF_eq]; exact xNo_ok
        | some s =>
        cases s with
        | zero => simp only [cOp, hu, hf, hs, BX.f, undF_eq, infoF_eq, funF_eq]; exact xNo_ok
        | succ s =>
        simp only [cOp, hu, hf, hs, BX.f, undF_eq, infoF_eq, funF_eq]
        refine xP_ok ?_
        intro a K h e act hG hops
        obtain ⟨v, h1, h2⟩ := cOpd_ok hG hops (x := x) (by simp [Op.operands]) h
        obtain ⟨p, o, rfl, h3⟩ := asRef_yes h1
        rw [frcN_eq] at h3
        generalize hc : act.eval x = cv at h2
        cases h2 with
        | ref hp =>
          have hf' : fs[i]? = some f := by simpa using hf
          refine ⟨_, _, h3, .ref hp, fun o W ho => ?_⟩
          simp [execOp, ho, hc, Instr.fieldAt, run_underlying hu, hf', Instr.sureAddr, fieldPlace, sizeAt_run hs, Addr.add_lit, Nat.add_assoc]
    · have e1 : cOp P G (.fieldAddr t x i) = xNo := by
        simp only [cOp, hu, BX.f, undF_eq, infoF_eq, funF_eq]
        cases d <;> first | rfl | exact absurd ⟨_, rfl⟩ hst
      rw [e1]; exact xNo_ok
end
end Go.Proofs.YtnkbpjmijeeddaaGreatDoor.Ev
end

section
/- The evaluator's operations that touch no memory do what the model's do, third part. No conditions. -/
namespace Go.Proofs.YtnkbpjmijeeddaaGreatDoor.Ev
set_option linter.unusedVariables false
open Go Go.RowKit
set_option linter.unusedSimpArgs false
section
variable {sy : Nat → Value} {N0 : Par} {W0 : World} {P : Program} {G : Nat}
theorem zeroA_run {t : TypeId} {z : AV} {e : Env} (h : zeroA P t = some z) : ∃ v, RV sy e z v ∧ ∀ W, (zeroValue t).run P W = .ok v W := by
  unfold zeroA at h
  try simp only [undF_eq, infoF_eq, funF_eq] at h
  cases hi : P.info? t with
  | none => rw [hi] at h; cases h
  | some i =>
    rw [hi] at h
    cases hz : i.zero with
    | none => simp only [hz] at h; cases h
    | some v => simp only [hz] at h; exact ⟨v, absF_ok 8 v z h, fun W => by simp [zeroValue, typeInfo, hi, hz]⟩
theorem op_typeAssert (x : Operand) (s t : TypeId) (ok : Bool) : OpOk P sy N0 W0 G (cOp P G (.typeAssert x s t ok)) (.typeAssert x s t ok) := by
  cases hu : P.underlying t with
  | none => simp only [cOp, hu, BX.f, undF_eq, infoF_eq, funF_eq]; exact xNo_ok
  | some d =>
    by_cases hd : ∃ ms, d = .interface ms
    · obtain ⟨ms, rfl⟩ := hd
      simp only [cOp, hu, BX.f, undF_eq, infoF_eq, funF_eq]; exact xNo_ok
    · cases hz : zeroA P t with
      | none =>
        have e1 : cOp P G (.typeAssert x s t ok) = xNo := by
          simp only [cOp, hu, hz, BX.f, undF_eq, infoF_eq, funF_eq]
          cases d <;> rfl
        rw [e1]; exact xNo_ok
      | some z =>
        cases ok with
        | true =>
          have e1 : cOp P G (.typeAssert x s t true) = xP fun a K => (cOpd G x).k a fun v => asIfc v (fun t' v => ifB (Nat.beq t' t) (K (.tup (.cons v (.cons (.bool true) .eol)))) (K (.tup (.cons z (.cons (.bool false) .eol))))) (K (.tup (.cons z (.cons (.bool false) .eol)))) := by
            simp only [cOp, hu, hz, BX.f, undF_eq, infoF_eq, funF_eq]
            cases d <;> first | rfl | exact absurd ⟨_, rfl⟩ hd
          rw [e1]
          refine xP_ok ?_
          intro a K h e act hG hops
          obtain ⟨v, h1, h2⟩ := cOpd_ok hG hops (x := x) (by simp [Op.operands]) h
          obtain ⟨zv, hz1, hz2⟩ := zeroA_run (sy := sy) (e := e) hz
          generalize hc : act.eval x = cv at h2
          rcases asIfc_yes h1 with ⟨t', w, rfl, h3⟩ | ⟨rfl, h3⟩
          · cases h2 with
            | ifc hw =>
              by_cases ht : t' = t
              · subst ht
                rw [ifB_true (Nat.beq_refl t')] at h3
                refine ⟨_, _, h3, .tup (.cons hw (.cons (.bool true) .eol)), fun o W ho => ?_⟩
                cases d <;> first | exact absurd ⟨_, rfl⟩ hd | simp [execOp, ho, hc, Instr.typeAssert, run_underlying hu]
              · rw [ifB_false (beq_no ht)] at h3
                refine ⟨_, _, h3, .tup (.cons hz1 (.cons (.bool false) .eol)), fun o W ho => ?_⟩
                cases d <;> first | exact absurd ⟨_, rfl⟩ hd | simp [execOp, ho, hc, Instr.typeAssert, run_underlying hu, ht, hz2]
          · cases h2
            refine ⟨_, _, h3, .tup (.cons hz1 (.cons (.bool false) .eol)), fun o W ho => ?_⟩
            cases d <;> first | exact absurd ⟨_, rfl⟩ hd | simp [execOp, ho, hc, Instr.typeAssert, run_underlying hu, hz2]
        | false =>
          have e1 : cOp P G (.typeAssert x s t false) = xP fun a K => (cOpd G x).k a fun v => asIfc v (fun t' v => ifB (Nat.beq t' t) (K v) false) false := by
            simp only [cOp, hu, hz, BX.f, undF_eq, infoF_eq, funF_eq]
            cases d <;> first | rfl | exact absurd ⟨_, rfl⟩ hd
          rw [e1]
          refine xP_ok ?_
          intro a K h e act hG hops
          obtain ⟨v, h1, h2⟩ := cOpd_ok hG hops (x := x) (by simp [Op.operands]) h
          generalize hc : act.eval x = cv at h2
          rcases asIfc_yes h1 with ⟨t', w, rfl, h3⟩ | ⟨_, h3⟩
          · cases h2 with
            | ifc hw =>
              obtain ⟨h4, h5⟩ := ifB_yes h3
              obtain rfl := beq_iff.1 h4
              refine ⟨_, _, h5, hw, fun o W ho => ?_⟩
              cases d <;> first | exact absurd ⟨_, rfl⟩ hd | simp [execOp, ho, hc, Instr.typeAssert, run_underlying hu]
          · cases h3
theorem ba_get {b : ByteArray} {s : List Nat} (h : b.data.toList.map UInt8.toNat = s) {k c : Nat} (hc : s[k]? = some c) : ∃ y : UInt8, b[k]? = some y ∧ y.toNat = c := by
  subst h
  rw [List.getElem?_map] at hc
  obtain ⟨y, h1, h2⟩ := Option.map_eq_some_iff.1 hc
  refine ⟨y, ?_, h2⟩
  obtain ⟨hk, h3⟩ := List.getElem?_eq_some_iff.1 h1
  have hk' : k < b.size := by simpa using hk
  rw [getElem?_pos b k hk']
  rw [Array.getElem_toList] at h3
  exact congrArg some h3
theorem op_index (t : TypeId) (x i : Operand) : OpOk P sy N0 W0 G (cOp P G (.index t x i)) (.index t x i) := by
  cases hu : P.underlying t with
  | none => simp only [cOp, hu, BX.f, undF_eq, infoF_eq, funF_eq]; exact xNo_ok
  | some d =>
    by_cases h0 : d = .string ∨ ∃ n el, d = .array n el
    · rcases h0 with rfl | ⟨n, el, rfl⟩
      · simp only [cOp, hu, BX.f, undF_eq, infoF_eq, funF_eq]
        refine xP_ok ?_
        intro a K h e act hG hops
        obtain ⟨v, h1, h2⟩ := cOpd_ok hG hops (x := x) (by simp [Op.operands]) h
        obtain ⟨w, h3, h4⟩ := cOpd_ok hG hops (x := i) (by simp [Op.operands]) h1
        obtain ⟨s, rfl, h5⟩ := asStr_yes h3
        obtain ⟨k, q, rfl, h6⟩ := asInt_yes h5
        obtain ⟨j, rfl, h7⟩ := asNat_yes h6
        rw [dropNs_eq] at h7
        generalize hc : act.eval x = cv at h2
        generalize hi : act.eval i = iv at h4
        cases h4
        cases h2 with
        | str hs =>
          rename_i b
          cases hd : List.drop j s with
          | nil => rw [hd] at h7; cases h7
          | cons c r =>
            rw [hd] at h7
            have hg : s[j]? = some c := by rw [← List.head?_drop, hd]; rfl
            obtain ⟨y, hy1, hy2⟩ := ba_get hs hg
            refine ⟨_, .int .u8 (y.toNat : Int), h7, ?_, fun o W ho => ?_⟩
            · rw [hy2]; exact .int _ _
            · simp [execOp, ho, hc, hi, Instr.index, run_underlying hu, asIntOf, hy1]
      · cases hs : sizeAt P el with
        | none => simp only [cOp, hu, hs, BX.f, undF_eq, infoF_eq, funF_eq]; exact xNo_ok
        | some s =>
          simp only [cOp, hu, hs, BX.f, undF_eq, infoF_eq, funF_eq]
          refine xP_ok ?_
          intro a K h e act hG hops
          obtain ⟨v, h1, h2⟩ := cOpd_ok hG hops (x := x) (by simp [Op.operands]) h
          obtain ⟨w, h3, h4⟩ := cOpd_ok hG hops (x := i) (by simp [Op.operands]) h1
          obtain ⟨l, rfl, h5⟩ := asAgg_yes h3
          obtain ⟨k, q, rfl, h6⟩ := asInt_yes h5
          obtain ⟨j, rfl, h7⟩ := asNat_yes h6
          obtain ⟨h8, h9⟩ := ifB_yes h7
          have hjn := blt_iff.1 h8
          generalize hc : act.eval x = cv at h2
          generalize hi : act.eval i = iv at h4
          cases h4
          cases h2 with
          | agg hl =>
            obtain ⟨y, u, h10, h11, h12⟩ := cPart_ok h9 hl
            refine ⟨y, u, h10, h11, fun o W ho => ?_⟩
            have h12' := h12 W
            have e1 : Nat.mul j s = j * s := rfl
            rw [e1] at h12'
            have hcond : (0 : Int) ≤ (j : Int) ∧ (j : Int) < (n : Int) := ⟨by omega, by omega⟩
            simp [execOp, ho, hc, hi, Instr.index, run_underlying hu, asIntOf, sizeAt_run hs, hcond, h12', hjn]
    · have e1 : cOp P G (.index t x i) = xNo := by
        simp only [cOp, hu, BX.f, undF_eq, infoF_eq, funF_eq]
        cases d <;> first | rfl | exact absurd (.inl rfl) h0 | exact absurd (.inr ⟨_, _, rfl⟩) h0
      rw [e1]; exact xNo_ok
theorem op_indexAddr (t : TypeId) (x i : Operand) : OpOk P sy N0 W0 G (cOp P G (.indexAddr t x i)) (.indexAddr t x i) := by
  cases hu : P.underlying t with
  | none => simp only [cOp, hu, BX.f, undF_eq, infoF_eq, funF_eq]; exact xNo_ok
  | some d =>
    by_cases h0 : (∃ el, d = .slice el) ∨ ∃ n el, d = .array n el
    · rcases h0 with ⟨el, rfl⟩ | ⟨n, el, rfl⟩
      · cases hs : sizeAt P el with
        | none => simp only [cOp, hu, hs, BX.f, undF_eq, infoF_eq, funF_eq]; exact xNo_ok
        | some s =>
          simp only [cOp, hu, hs, BX.f, undF_eq, infoF_eq, funF_eq]
          refine xP_ok ?_
          intro a K h e act hG hops
          obtain ⟨v, h1, h2⟩ := cOpd_ok hG hops (x := x) (by simp [Op.operands]) h
          obtain ⟨w, h3, h4⟩ := cOpd_ok hG hops (x := i) (by simp [Op.operands]) h1
          obtain ⟨k, q, rfl, h6⟩ := asInt_yes h3
          obtain ⟨j, rfl, h7⟩ := asNat_yes h6
          rcases asSlc_yes h7 with ⟨p, o', es, n, c, rfl, h8⟩ | ⟨_, h8⟩
          · obtain ⟨h9, h10⟩ := ifB_yes h8
            rw [frcN_eq] at h10
            simp only [Bool.and_eq_true] at h9
            have hes := beq_iff.1 h9.1
            have hjn := blt_iff.1 h9.2
            generalize hc : act.eval x = cv at h2
            generalize hi : act.eval i = iv at h4
            cases h4
            cases h2 with
            | slc hp hn hsz hcap =>
              refine ⟨_, _, h10, .ref hp, fun o W ho => ?_⟩
              simp [execOp, ho, hc, hi, Instr.indexAt, run_underlying hu, asIntOf, sizeAt_run hs, hjn, Addr.add_lit, Nat.add_assoc]
          · cases h8
      · cases hs : sizeAt P el with
        | none => simp only [cOp, hu, hs, BX.f, undF_eq, infoF_eq, funF_eq]; exact xNo_ok
        | some s =>
          simp only [cOp, hu, hs, BX.f, undF_eq, infoF_eq, funF_eq]
          refine xP_ok ?_
          intro a K h e act hG hops
          obtain ⟨v, h1, h2⟩ := cOpd_ok hG hops (x := x) (by simp [Op.operands]) h
          obtain ⟨w, h3, h4⟩ := cOpd_ok hG hops (x := i) (by simp [Op.operands]) h1
          obtain ⟨k, q, rfl, h6⟩ := asInt_yes h3
          obtain ⟨j, rfl, h7⟩ := asNat_yes h6
          obtain ⟨p, o', rfl, h8⟩ := asRef_yes h7
          obtain ⟨h9, h10⟩ := ifB_yes h8
          rw [frcN_eq] at h10
          have hjn := blt_iff.1 h9
          generalize hc : act.eval x = cv at h2
          generalize hi : act.eval i = iv at h4
          cases h4
          cases h2 with
          | ref hp =>
            refine ⟨_, _, h10, .ref hp, fun o W ho => ?_⟩
            simp [execOp, ho, hc, hi, Instr.indexAt, Instr.sureAddr, run_underlying hu, asIntOf, sizeAt_run hs, hjn, Addr.add_lit, Nat.add_assoc]
    · have e1 : cOp P G (.indexAddr t x i) = xNo := by
        simp only [cOp, hu, BX.f, undF_eq, infoF_eq, funF_eq]
        cases d <;> first | rfl | exact absurd (.inl ⟨_, rfl⟩) h0 | exact absurd (.inr ⟨_, _, rfl⟩) h0
      rw [e1]; exact xNo_ok
theorem op_convert_int {s d : TypeId} {ds : TypeDesc} {k : IntKind} (hs : P.underlying s = some ds) (hd : P.underlying d = some (.int k)) (x : Operand) : OpOk P sy N0 W0 G (cOp P G (.convert s d x)) (.convert s d x) := by
  have e1 : cOp P G (.convert s d x) = xP fun a K => (cOpd G x).k a fun v => asInt v fun _ n => wrapK k n fun n => K (.int k n) := by
    simp only [cOp, hs, hd, BX.f, undF_eq, infoF_eq, funF_eq]
  rw [e1]
  refine xP_ok ?_
  intro a K h e act hG hops
  obtain ⟨v, h1, h2⟩ := cOpd_ok hG hops (x := x) (by simp [Op.operands]) h
  obtain ⟨j, n, rfl, h3⟩ := asInt_yes h1
  rw [wrapK_eq] at h3
  generalize hc : act.eval x = cv at h2
  cases h2
  refine ⟨_, _, h3, .int _ _, fun o W ho => ?_⟩
  simp [execOp, ho, hc, convert, run_underlying hs, run_underlying hd, Conv.intToInt]
theorem op_convert_rune {s d : TypeId} {j : IntKind} (hs : P.underlying s = some (.int j)) (hd : P.underlying d = some .string) (x : Operand) : OpOk P sy N0 W0 G (cOp P G (.convert s d x)) (.convert s d x) := by
  have e1 : cOp P G (.convert s d x) = xP fun a K => (cOpd G x).k a fun v => asInt v fun _ n => asNat n fun n => ifB (Nat.blt n 128) (K (.str [n])) false := by
    simp only [cOp, hs, hd, BX.f, undF_eq, infoF_eq, funF_eq]
  rw [e1]
  refine xP_ok ?_
  intro a K h e act hG hops
  obtain ⟨v, h1, h2⟩ := cOpd_ok hG hops (x := x) (by simp [Op.operands]) h
  obtain ⟨j, n, rfl, h3⟩ := asInt_yes h1
  obtain ⟨m, rfl, h4⟩ := asNat_yes h3
  obtain ⟨h5, h6⟩ := ifB_yes h4
  have hm := blt_iff.1 h5
  generalize hc : act.eval x = cv at h2
  cases h2
  refine ⟨_, .string ⟨#[UInt8.ofNat m]⟩, h6, .str ?_, fun o W ho => ?_⟩
  · simp [Nat.mod_eq_of_lt (show m < 256 by omega)]
  · have h0 : ¬ (m : Int) < 0 := by omega
    have he : Utf8.encode (m : Int) = ⟨#[UInt8.ofNat m]⟩ := by
      have hv : Utf8.valid (m : Int) = true := by simp [Utf8.valid]; omega
      simp [Utf8.encode, hv, hm]
    simp [execOp, ho, hc, convert, run_underlying hs, run_underlying hd, Conv.intToString, he]
theorem op_convert_str {s d : TypeId} (hs : P.underlying s = some .string) (hd : P.underlying d = some .string) (x : Operand) : OpOk P sy N0 W0 G (cOp P G (.convert s d x)) (.convert s d x) := by
  have e1 : cOp P G (.convert s d x) = xP fun a K => (cOpd G x).k a fun v => asStr v fun s => K (.str s) := by
    simp only [cOp, hs, hd, BX.f, undF_eq, infoF_eq, funF_eq]
  rw [e1]
  refine xP_ok ?_
  intro a K h e act hG hops
  obtain ⟨v, h1, h2⟩ := cOpd_ok hG hops (x := x) (by simp [Op.operands]) h
  obtain ⟨l, rfl, h3⟩ := asStr_yes h1
  generalize hc : act.eval x = cv at h2
  cases h2 with
  | str hl =>
    refine ⟨_, _, h3, .str hl, fun o W ho => ?_⟩
    simp [execOp, ho, hc, convert, run_underlying hs, run_underlying hd]
theorem op_len (args : Array Operand) (ts : Array TypeId) : OpOk P sy N0 W0 G (cOp P G (.call { callee := .builtin .len, args, argTypes := ts })) (.call { callee := .builtin .len, args, argTypes := ts }) := by
  obtain ⟨args⟩ := args
  obtain ⟨ts⟩ := ts
  cases args with
  | nil => simp only [cOp, BX.f, undF_eq, infoF_eq, funF_eq]; exact xNo_ok
  | cons x args => cases args with
    | cons y args => simp only [cOp, BX.f, undF_eq, infoF_eq, funF_eq]; exact xNo_ok
    | nil => cases ts with
      | nil => simp only [cOp, BX.f, undF_eq, infoF_eq, funF_eq]; exact xNo_ok
      | cons t ts =>
        cases hu : P.underlying t with
        | none => simp only [cOp, hu, BX.f, undF_eq, infoF_eq, funF_eq]; exact xNo_ok
        | some d =>
          by_cases h0 : d = .string ∨ ∃ el, d = .slice el
          · rcases h0 with rfl | ⟨el, rfl⟩
            · simp only [cOp, hu, BX.f, undF_eq, infoF_eq, funF_eq]
              refine xP_ok ?_
              intro a K h e act hG hops
              obtain ⟨v, h1, h2⟩ := cOpd_ok hG hops (x := x) (by simp [Op.operands, Call.operands]) h
              obtain ⟨s, rfl, h3⟩ := asStr_yes h1
              rw [lenK_eq] at h3
              generalize hc : act.eval x = cv at h2
              cases h2 with
              | str hs =>
                refine ⟨_, _, h3, .int _ _, fun o W ho => ?_⟩
                simp [execOp, ho, hc, resolve, invoke, builtin, Builtin.len_, run_underlying hu, goInt, str_size hs]
            · simp only [cOp, hu, BX.f, undF_eq, infoF_eq, funF_eq]
              refine xP_ok ?_
              intro a K h e act hG hops
              obtain ⟨v, h1, h2⟩ := cOpd_ok hG hops (x := x) (by simp [Op.operands, Call.operands]) h
              generalize hc : act.eval x = cv at h2
              rcases asSlc_yes h1 with ⟨p, o', es, n, c, rfl, h3⟩ | ⟨rfl, h3⟩
              · cases h2
                refine ⟨_, _, h3, .int _ _, fun o W ho => ?_⟩
                simp [execOp, ho, hc, resolve, invoke, builtin, Builtin.len_, run_underlying hu, goInt]
              · cases h2
                refine ⟨_, _, h3, .int _ _, fun o W ho => ?_⟩
                simp [execOp, ho, hc, resolve, invoke, builtin, Builtin.len_, run_underlying hu, goInt]
          · have e1 : cOp P G (.call { callee := .builtin .len, args := ⟨[x]⟩, argTypes := ⟨t :: ts⟩ }) = xNo := by
              simp only [cOp, hu, BX.f, undF_eq, infoF_eq, funF_eq]
              cases d <;> first | rfl | exact absurd (.inl rfl) h0 | exact absurd (.inr ⟨_, rfl⟩) h0
            rw [e1]; exact xNo_ok
theorem op_min (args : Array Operand) (ts : Array TypeId) : OpOk P sy N0 W0 G (cOp P G (.call { callee := .builtin .min, args, argTypes := ts })) (.call { callee := .builtin .min, args, argTypes := ts }) := by
  obtain ⟨args⟩ := args
  cases args with
  | nil => simp only [cOp, BX.f, undF_eq, infoF_eq, funF_eq]; exact xNo_ok
  | cons x args => cases args with
    | nil => simp only [cOp, BX.f, undF_eq, infoF_eq, funF_eq]; exact xNo_ok
    | cons y args => cases args with
      | cons z args => simp only [cOp, BX.f, undF_eq, infoF_eq, funF_eq]; exact xNo_ok
      | nil =>
        simp only [cOp, BX.f, undF_eq, infoF_eq, funF_eq]
        refine xP_ok ?_
        intro a K h e act hG hops
        obtain ⟨v, h1, h2⟩ := cOpd_ok hG hops (x := x) (by simp [Op.operands, Call.operands]) h
        obtain ⟨w, h3, h4⟩ := cOpd_ok hG hops (x := y) (by simp [Op.operands, Call.operands]) h1
        obtain ⟨k, m, rfl, h5⟩ := asInt_yes h3
        obtain ⟨j, n, rfl, h6⟩ := asInt_yes h5
        obtain ⟨h7, h8⟩ := ifB_yes h6
        obtain rfl := sameK_yes h7
        generalize hc : act.eval x = cv at h2
        generalize hd : act.eval y = dv at h4
        cases h2; cases h4
        cases hl : ltI n m with
        | true =>
          rw [hl] at h8
          have hlt := ltI_iff.1 hl
          exact ⟨_, _, h8, .int _ _, fun o W ho => by simp [execOp, ho, hc, hd, resolve, invoke, builtin, Builtin.min_, Builtin.min2, hlt]⟩
        | false =>
          rw [hl] at h8
          have hlt : ¬ n < m := fun h => by rw [ltI_iff.2 h] at hl; cases hl
          exact ⟨_, _, h8, .int _ _, fun o W ho => by simp [execOp, ho, hc, hd, resolve, invoke, builtin, Builtin.min_, Builtin.min2, hlt]⟩
theorem op_max (args : Array Operand) (ts : Array TypeId) : OpOk P sy N0 W0 G (cOp P G (.call { callee := .builtin .max, args, argTypes := ts })) (.call { callee := .builtin .max, args, argTypes := ts }) := by
  obtain ⟨args⟩ := args
  cases args with
  | nil => simp only [cOp, BX.f, undF_eq, infoF_eq, funF_eq]; exact xNo_ok
  | cons x args => cases args with
    | nil => simp only [cOp, BX.f, undF_eq, infoF_eq, funF_eq]; exact xNo_ok
    | cons y args => cases args with
      | cons z args => simp only [cOp, BX.f, undF_eq, infoF_eq, funF_eq]; exact xNo_ok
      | nil =>
        simp only [cOp, BX.f, undF_eq, infoF_eq, funF_eq]
        refine xP_ok ?_
        intro a K h e act hG hops
        obtain ⟨v, h1, h2⟩ := cOpd_ok hG hops (x := x) (by simp [Op.operands, Call.operands]) h
        obtain ⟨w, h3, h4⟩ := cOpd_ok hG hops (x := y) (by simp [Op.operands, Call.operands]) h1
        obtain ⟨k, m, rfl, h5⟩ := asInt_yes h3
        obtain ⟨j, n, rfl, h6⟩ := asInt_yes h5
        obtain ⟨h7, h8⟩ := ifB_yes h6
        obtain rfl := sameK_yes h7
        generalize hc : act.eval x = cv at h2
        generalize hd : act.eval y = dv at h4
        cases h2; cases h4
        cases hl : ltI m n with
        | true =>
          rw [hl] at h8
          have hlt := ltI_iff.1 hl
          exact ⟨_, _, h8, .int _ _, fun o W ho => by simp [execOp, ho, hc, hd, resolve, invoke, builtin, Builtin.max_, Builtin.max2, hlt]⟩
        | false =>
          rw [hl] at h8
          have hlt : ¬ m < n := fun h => by rw [ltI_iff.2 h] at hl; cases hl
          exact ⟨_, _, h8, .int _ _, fun o W ho => by simp [execOp, ho, hc, hd, resolve, invoke, builtin, Builtin.max_, Builtin.max2, hlt]⟩
end
end Go.Proofs.YtnkbpjmijeeddaaGreatDoor.Ev
end

section
/- The evaluator cuts strings and slices, and builds structs, as the model does. No conditions. -/
namespace Go.Proofs.YtnkbpjmijeeddaaGreatDoor.Ev
set_option linter.unusedVariables false
open Go Go.RowKit
set_option linter.unusedSimpArgs false
section
variable {sy : Nat → Value} {N0 : Par} {W0 : World} {P : Program} {G : Nat}
def IsB (v : Option Value) (n d : Nat) : Prop := (v = none ∧ n = d) ∨ ∃ k, v = some (.int k (n : Int))
theorem bound_run {k : IntKind} {n y : Nat} {c : BoundsCode} (h : n ≤ y) (W : World) : (Instr.sliceBound (.int k (n : Int)) y c).run P W = .ok n W := by
  have h1 : (0 : Int) ≤ (n : Int) ∧ (n : Int) ≤ (y : Int) := ⟨by omega, by omega⟩
  simp [Instr.sliceBound, asIntOf, h1, h]
theorem bounds_run {isSlice : Bool} {len cap l h m : Nat} {low high max : Option Value} (hl : IsB low l 0) (hh : IsB high h len) (hm : IsB max m cap) (hx : high.isSome = true ∨ max = none) (h1 : l ≤ h) (h2 : h ≤ m) (h3 : m ≤ cap) (W : World) :
    (Instr.sliceBounds isSlice len cap low high max).run P W = .ok (l, h, m) W := by
  rcases hm with ⟨rfl, rfl⟩ | ⟨km, rfl⟩
  · rcases hh with ⟨rfl, rfl⟩ | ⟨kh, rfl⟩ <;> rcases hl with ⟨rfl, rfl⟩ | ⟨kl, rfl⟩ <;> simp [Instr.sliceBounds, bound_run, h1, h2, h3]
  · rcases hh with ⟨rfl, rfl⟩ | ⟨kh, rfl⟩
    · simp at hx
    · rcases hl with ⟨rfl, rfl⟩ | ⟨kl, rfl⟩ <;> simp [Instr.sliceBounds, bound_run, h1, h2, h3]
theorem natK_ok {e : Env} {a : T AV} {act : Act} (hG : ∀ g, g < G → ∃ sz, e g = some (g, 0, sz)) {l : Array Operand} (ho : Ops sy e a act l) {lo : Option Operand} (hx : ∀ x, lo = some x → x ∈ l) {d : Nat} {K : Nat → Bool} (h : natK (cBound G lo) a d K = true) :
    ∃ n, K n = true ∧ IsB (lo.map act.eval) n d := by
  cases lo with
  | none => exact ⟨d, h, .inl ⟨rfl, rfl⟩⟩
  | some x =>
    obtain ⟨v, h1, h2⟩ := cOpd_ok hG ho (hx x rfl) (K := fun v => asInt v fun _ n => asNat n K) h
    obtain ⟨k, q, rfl, h3⟩ := asInt_yes h1
    obtain ⟨n, rfl, h4⟩ := asNat_yes h3
    generalize hc : act.eval x = cv at h2
    cases h2
    exact ⟨n, h4, .inr ⟨k, by simp [hc]⟩⟩
theorem op_slice (t : TypeId) (x : Operand) (lo hi mx : Option Operand) : OpOk P sy N0 W0 G (cOp P G (.slice t x lo hi mx)) (.slice t x lo hi mx) := by
  have mem : ∀ y, lo = some y ∨ hi = some y ∨ mx = some y → y ∈ (Op.slice t x lo hi mx).operands := by
    intro y hy
    rcases hy with rfl | rfl | rfl <;> simp [Op.operands]
  cases hu : P.underlying t with
  | none => simp only [cOp, hu, BX.f, undF_eq, infoF_eq, funF_eq]; exact xNo_ok
  | some d =>
    by_cases h0 : (d = .string ∧ mx = none) ∨ ∃ el, d = .slice el
    · rcases h0 with ⟨rfl, rfl⟩ | ⟨el, rfl⟩
      · simp only [cOp, hu, BX.f, undF_eq, infoF_eq, funF_eq]
        refine xP_ok ?_
        intro a K h e act hG hops
        obtain ⟨v, h1, h2⟩ := cOpd_ok hG hops (x := x) (by simp [Op.operands]) h
        obtain ⟨s, rfl, h3⟩ := asStr_yes h1
        rw [lenK_eq] at h3
        obtain ⟨l, h4, hl⟩ := natK_ok hG hops (fun y hy => mem y (.inl hy)) h3
        obtain ⟨q, h5, hh⟩ := natK_ok hG hops (fun y hy => mem y (.inr (.inl hy))) h4
        obtain ⟨h6, h7⟩ := ifB_yes h5
        simp only [Bool.and_eq_true] at h6
        have hlq := ble_iff.1 h6.1
        have hqs := ble_iff.1 h6.2
        unfold cutNs at h7
        rw [takeNs_eq, dropNs_eq] at h7
        generalize hc : act.eval x = cv at h2
        cases h2 with
        | str hs =>
          rename_i b
          have hsz := str_size hs
          refine ⟨_, .string (b.extract l q), h7, .str ?_, fun o W ho => ?_⟩
          · rw [← toList_map, Lib.extract_toList]
            subst hs
            rw [List.map_take, List.map_drop, List.drop_take]
          · have hb := bounds_run (P := P) (isSlice := false) (len := b.size) (cap := b.size) (m := b.size) hl (hsz ▸ hh) (.inl ⟨rfl, rfl⟩) (.inr rfl) hlq (by omega) (Nat.le_refl _) W
            simp [execOp, ho, hc, Instr.sliceAt, Instr.slice, run_underlying hu, hb]
      · cases hs : sizeAt P el with
        | none => simp only [cOp, hu, hs, BX.f, undF_eq, infoF_eq, funF_eq]; exact xNo_ok
        | some es =>
          cases hm : (hi.isSome || mx.isNone) with
          | false => simp only [cOp, hu, hs, hm, BX.f, undF_eq, infoF_eq, funF_eq]; exact xNo_ok
          | true =>
            have hx' : (hi.map (fun y => y)).isSome = true ∨ mx = none := by
              cases hi <;> cases mx <;> simp_all
            simp only [cOp, hu, hs, hm, BX.f, undF_eq, infoF_eq, funF_eq]
            refine xP_ok ?_
            intro a K h e act hG hops
            obtain ⟨v, h1, h2⟩ := cOpd_ok hG hops (x := x) (by simp [Op.operands]) h
            have hx2 : (hi.map act.eval).isSome = true ∨ mx.map act.eval = none := by
              cases hi <;> cases mx <;> simp_all
            rcases asSlc_yes h1 with ⟨p, o', es', n, c, rfl, h3⟩ | ⟨rfl, h3⟩
            · obtain ⟨h4, h5⟩ := ifB_yes h3
              obtain rfl := beq_iff.1 h4
              obtain ⟨l, h6, hl⟩ := natK_ok hG hops (fun y hy => mem y (.inl hy)) h5
              obtain ⟨q, h7, hh⟩ := natK_ok hG hops (fun y hy => mem y (.inr (.inl hy))) h6
              obtain ⟨h8, h9⟩ := ifB_yes h7
              have hlq := ble_iff.1 h8
              generalize hc : act.eval x = cv at h2
              cases h2 with
              | slc hp hn hsz hcap =>
                rename_i r base sz cap
                -- what the model runs, given the bounds
                have key : ∀ (g : Nat), IsB (mx.map act.eval) g cap → q ≤ g → g ≤ cap → ∀ (o : Oper) (W : World), o.op = .slice t x lo hi mx →
                    (execOp act.eval o).run P W = .ok (.value (.slice (if g = l then some ⟨r, base + o', none⟩ else some ⟨r, base + (o' + l * es'), none⟩) (q - l) (g - l))) W := by
                  intro g hg hqg hgc o W ho
                  have hb := bounds_run (P := P) (isSlice := true) (len := n) (cap := cap) hl hh hg hx2 hlq hqg hgc W
                  by_cases hgl : g = l <;> simp [execOp, ho, hc, Instr.sliceAt, Instr.slice, run_underlying hu, hb, sizeAt_run hs, Addr.add_lit, hgl, Nat.add_assoc]
                have room : ∀ g, g ≤ cap → l ≤ g → o' + l * es' + (g - l) * es' ≤ sz := by
                  intro g hg hlg
                  have : l * es' + (g - l) * es' = g * es' := by rw [← Nat.add_mul]; congr 1; omega
                  have : g * es' ≤ cap * es' := Nat.mul_le_mul_right _ hg
                  omega
                cases mx with
                | none =>
                  cases c with
                  | none =>
                    obtain ⟨h10, h11⟩ := ifB_yes (b := Nat.ble q n) h9
                    obtain ⟨h12, h13⟩ := ifB_yes h11
                    simp only [frcN_eq] at h13
                    have hqn := ble_iff.1 h10
                    have hl2 : l < n ∨ l = 0 := by
                      simp only [Bool.or_eq_true] at h12
                      exact h12.imp blt_iff.1 beq_iff.1
                    refine ⟨_, _, h13, .slc (r := r) (base := base) (sz := sz) (cap := cap - l) hp (by show q - l ≤ cap - l; omega) (room cap (Nat.le_refl _) (by omega)) (fun k hk => by cases hk), fun o W ho => ?_⟩
                    rw [key cap (.inl ⟨rfl, rfl⟩) (by omega) (Nat.le_refl _) o W ho]
                    by_cases hcl : cap = l
                    · have : l = 0 := by omega
                      subst this
                      simp [hcl]
                    · rw [if_neg hcl]; rfl
                  | some c =>
                    obtain rfl := hcap c rfl
                    obtain ⟨h10, h11⟩ := ifB_yes (b := Nat.ble q cap) h9
                    have hqc := ble_iff.1 h10
                    cases hlc : Nat.beq l cap with
                    | true =>
                      have hlc' := beq_iff.1 hlc
                      rw [hlc] at h11
                      have h12 : K (.slc p o' es' 0 (some 0)) = true := h11
                      refine ⟨_, _, h12, .slc (r := r) (base := base) (sz := sz) (cap := 0) hp (Nat.le_refl _) (by omega) (fun k hk => by cases hk; rfl), fun o W ho => ?_⟩
                      rw [key cap (.inl ⟨rfl, rfl⟩) hqc (Nat.le_refl _) o W ho, if_pos hlc'.symm]
                      have e1 : q - l = 0 := by omega
                      have e2 : cap - l = 0 := by omega
                      rw [e1, e2]
                    | false =>
                      have hlc' : ¬ cap = l := fun h => by rw [h, beq_yes rfl] at hlc; cases hlc
                      rw [hlc] at h11
                      have h12 : (frcN (Nat.add o' (Nat.mul l es')) fun o => frcN (Nat.sub q l) fun n => frcN (Nat.sub cap l) fun c => K (.slc p o es' n (some c))) = true := h11
                      simp only [frcN_eq] at h12
                      refine ⟨_, _, h12, .slc (r := r) (base := base) (sz := sz) (cap := cap - l) hp (by show q - l ≤ cap - l; omega) (room cap (Nat.le_refl _) (by omega)) (fun k hk => by cases hk; rfl), fun o W ho => ?_⟩
                      rw [key cap (.inl ⟨rfl, rfl⟩) hqc (Nat.le_refl _) o W ho, if_neg hlc']; rfl
                | some mo =>
                  have h10 : (cOpd G mo).k a (fun v => asInt v fun _ g => asNat g fun g => ifB (Nat.ble q g && Nat.ble g n) (ifB (Nat.beq l g) (K (.slc p o' es' 0 (some 0))) (frcN (Nat.add o' (Nat.mul l es')) fun o => frcN (Nat.sub q l) fun n => frcN (Nat.sub g l) fun c => K (.slc p o es' n (some c)))) false) = true := h9
                  obtain ⟨w, h11, h12⟩ := cOpd_ok hG hops (x := mo) (mem mo (.inr (.inr rfl))) h10
                  obtain ⟨k, g', rfl, h13⟩ := asInt_yes h11
                  obtain ⟨g, rfl, h14⟩ := asNat_yes h13
                  obtain ⟨h15, h16⟩ := ifB_yes h14
                  simp only [Bool.and_eq_true] at h15
                  have hqg := ble_iff.1 h15.1
                  have hgn := ble_iff.1 h15.2
                  generalize hmo : act.eval mo = mv at h12
                  cases h12
                  have hgB : IsB ((some mo).map act.eval) g cap := .inr ⟨k, by simp [hmo]⟩
                  cases hlc : Nat.beq l g with
                  | true =>
                    have hlc' := beq_iff.1 hlc
                    rw [hlc] at h16
                    have h17 : K (.slc p o' es' 0 (some 0)) = true := h16
                    refine ⟨_, _, h17, .slc (r := r) (base := base) (sz := sz) (cap := 0) hp (Nat.le_refl _) (by omega) (fun k hk => by cases hk; rfl), fun o W ho => ?_⟩
                    rw [key g hgB hqg (by omega) o W ho, if_pos hlc'.symm]
                    have e1 : q - l = 0 := by omega
                    have e2 : g - l = 0 := by omega
                    rw [e1, e2]
                  | false =>
                    have hlc' : ¬ g = l := fun h => by rw [h, beq_yes rfl] at hlc; cases hlc
                    rw [hlc] at h16
                    have h17 : (frcN (Nat.add o' (Nat.mul l es')) fun o => frcN (Nat.sub q l) fun n => frcN (Nat.sub g l) fun c => K (.slc p o es' n (some c))) = true := h16
                    simp only [frcN_eq] at h17
                    refine ⟨_, _, h17, .slc (r := r) (base := base) (sz := sz) (cap := g - l) hp (by show q - l ≤ g - l; omega) (room g (by omega) (by omega)) (fun k hk => by cases hk; rfl), fun o W ho => ?_⟩
                    rw [key g hgB hqg (by omega) o W ho, if_neg hlc']; rfl
            · obtain ⟨l, h6, hl⟩ := natK_ok hG hops (fun y hy => mem y (.inl hy)) h3
              obtain ⟨q, h7, hh⟩ := natK_ok hG hops (fun y hy => mem y (.inr (.inl hy))) h6
              obtain ⟨g, h8, hg⟩ := natK_ok hG hops (fun y hy => mem y (.inr (.inr hy))) h7
              obtain ⟨h9, h10⟩ := ifB_yes h8
              simp only [Bool.and_eq_true] at h9
              obtain rfl := beq_iff.1 h9.1.1
              obtain rfl := beq_iff.1 h9.1.2
              obtain rfl := beq_iff.1 h9.2
              generalize hc : act.eval x = cv at h2
              cases h2
              refine ⟨_, _, h10, .nils, fun o W ho => ?_⟩
              have hb := bounds_run (P := P) (isSlice := true) (len := 0) (cap := 0) hl hh hg hx2 (Nat.le_refl _) (Nat.le_refl _) (Nat.le_refl _) W
              simp [execOp, ho, hc, Instr.sliceAt, Instr.slice, run_underlying hu, hb, sizeAt_run hs]
    · have e1 : cOp P G (.slice t x lo hi mx) = xNo := by
        simp only [cOp, hu, BX.f, undF_eq, infoF_eq, funF_eq]
        cases d <;> first | rfl | exact absurd (.inr ⟨_, rfl⟩) h0 | (cases mx <;> first | rfl | exact absurd (.inl ⟨rfl, rfl⟩) h0)
      rw [e1]; exact xNo_ok
end
end Go.Proofs.YtnkbpjmijeeddaaGreatDoor.Ev
end

section
/- The evaluator reads, stores and makes blocks as the model does. No conditions. -/
namespace Go.Proofs.YtnkbpjmijeeddaaGreatDoor.Ev
open Go Go.RowKit
set_option linter.unusedSimpArgs false
set_option linter.unusedVariables false
section
variable {sy : Nat → Value} {N0 : Par} {W0 : World} {P : Program} {G : Nat} {e : Env} {m : M} {nx : Nat} {W : World}
theorem blkK_yes {p : Nat} {K : T AV → Nat → Nat → Bool → Bool} (h : blkK m p K = true) : ∃ B : AB, m.at p = some B ∧ K B.c B.n B.fz B.ro = true := by
  unfold blkK at h
  rw [T.getP_eq] at h
  cases hB : T.get none m p with
  | none => rw [hB] at h; cases h
  | some B => rw [hB] at h; exact ⟨B, hB, h⟩
theorem getN_eq {β : Type} (t : T AV) (o : Nat) (K : AV → β) : getN t o K = K (T.get und t o) := T.getP_eq _ _ _ _
theorem rdK_ok {c : T AV} {r base : Nat} : ∀ (n o : Nat) {K : AV → Bool}, rdK c n o K = true → (∀ i, o ≤ i → i < o + n → ∃ v, W.cell? ⟨r, base + i, none⟩ = some v ∧ RV sy e (T.get und c i) v ∧ (T.get und c i).cell = true) →
    ∃ l vs, K l = true ∧ RL sy e l vs ∧ vs.length = n ∧ (∀ j v, vs[j]? = some v → W.cell? ⟨r, base + o + j, none⟩ = some v) ∧ (∀ v ∈ vs, v.oneCell' = true) ∧ allCell l = true
  | 0, o, K, h, _ => ⟨.eol, [], h, .eol, rfl, (fun j v hv => by simp at hv), (fun v hv => by cases hv), rfl⟩
  | n + 1, o, K, h, hc => by
    have h' : getN c o (fun v => frcN (Nat.succ o) fun o => rdK c n o fun l => K (.cons v l)) = true := h
    rw [getN_eq, frcN_eq] at h'
    obtain ⟨v, h1, h2, h3⟩ := hc o (Nat.le_refl _) (by omega)
    obtain ⟨l, vs, h4, h5, h6, h7, h8, h9⟩ := rdK_ok n (o + 1) h' (fun i h1 h2 => hc i (by omega) (by omega))
    refine ⟨_, v :: vs, h4, .cons h2 h5, by simp [h6], fun j u hu => ?_, fun u hu => ?_, ?_⟩
    · cases j with
      | zero => simp at hu; subst hu; exact h1
      | succ j =>
        have := h7 j u (by simpa using hu)
        rw [← this]
        congr 2
        omega
    · rcases List.mem_cons.1 hu with rfl | hu
      · exact h2.one h3
      · exact h8 u hu
    · show asCell (T.get und c o) (allCell l) = true
      rw [h9]
      revert h3
      cases T.get und c o <;> intro h3 <;> first | rfl | cases h3
theorem readK_ok {p : Nat} {o n r base sz : Nat} {K : AV → Bool} (h : readK m p o n K = true) (hm : RM sy N0 e m nx W) (hp : e p = some (r, base, sz)) :
    ∃ l vs, K l = true ∧ RL sy e l vs ∧ vs.length = n ∧ (∀ j v, vs[j]? = some v → W.cell? ⟨r, base + o + j, none⟩ = some v) ∧ (∀ v ∈ vs, v.oneCell' = true) ∧ allCell l = true ∧ o + n ≤ sz := by
  obtain ⟨B, hB, h1⟩ := blkK_yes h
  obtain ⟨h2, h3⟩ := ifB_yes h1
  have h4 := ble_iff.1 h2
  have hH := hm.blk p B r base sz hB hp
  have h5 : o + n ≤ B.n := h4
  obtain ⟨l, vs, h6⟩ := rdK_ok (W := W) (r := r) (base := base) n o h3 (fun i _ h2 => hH.cells i (by omega))
  exact ⟨l, vs, h6.1, h6.2.1, h6.2.2.1, h6.2.2.2.1, h6.2.2.2.2.1, h6.2.2.2.2.2, by have := hH.n; omega⟩
theorem read1K_ok {p : Nat} {o r base sz : Nat} {K : AV → Bool} (h : read1K m p o K = true) (hm : RM sy N0 e m nx W) (hp : e p = some (r, base, sz)) :
    ∃ x v, K x = true ∧ RV sy e x v ∧ W.cell? ⟨r, base + o, none⟩ = some v := by
  obtain ⟨B, hB, h1⟩ := blkK_yes h
  obtain ⟨h2, h3⟩ := ifB_yes h1
  rw [getN_eq] at h3
  obtain ⟨v, h4, h5, _⟩ := (hm.blk p B r base sz hB hp).cells o (blt_iff.1 h2)
  exact ⟨_, v, h3, h5, h4⟩
/-- A variable is read. -/
theorem cLoad_ok {t : TypeId} {x : AV} {u : Value} {K : AV → Bool} (h : (cLoad P t).f m x K = true) (hm : RM sy N0 e m nx W) (hx : RV sy e x u) :
    ∃ a y v, u = .pointer (some a) ∧ K y = true ∧ RV sy e y v ∧ (loadVar t a).run P W = .ok v W := by
  cases ha : isAgg P t with
  | none => simp only [cLoad, ha, BR.f, undF_eq, infoF_eq, funF_eq] at h; cases h
  | some b =>
    cases hs : sizeAt P t with
    | none => cases b <;> simp only [cLoad, ha, hs, BR.f, undF_eq, infoF_eq, funF_eq] at h <;> cases h
    | some s =>
      cases b with
      | true =>
        simp only [cLoad, ha, hs, BR.f, undF_eq, infoF_eq, funF_eq] at h
        obtain ⟨p, o, rfl, h1⟩ := asRef_yes h
        cases hx with
        | ref hp =>
          rename_i r base sz
          obtain ⟨l, vs, h2, h3, h4, h5, _⟩ := readK_ok h1 hm hp
          refine ⟨_, _, _, rfl, h2, .agg h3, ?_⟩
          have := run_loadCells_list (P := P) W ⟨r, base + o, none⟩ vs (fun j v hv => by rw [Addr.add_lit]; exact h5 j v hv)
          rw [h4] at this
          simp [loadVar, isAgg_run ha, sizeAt_run hs, this]
      | false =>
        simp only [cLoad, ha, hs, BR.f, undF_eq, infoF_eq, funF_eq] at h
        obtain ⟨p, o, rfl, h1⟩ := asRef_yes h
        cases hx with
        | ref hp =>
          obtain ⟨y, v, h2, h3, h4⟩ := read1K_ok h1 hm hp
          exact ⟨_, _, _, rfl, h2, h3, by simp [loadVar, isAgg_run ha, h4]⟩
/-- An operation that only reads. -/
theorem xR_ok {op : Op} {g : T AV → M → (AV → Bool) → Bool}
    (h : ∀ a m K, g a m K = true → ∀ e act nx W, (∀ g, g < G → ∃ sz, e g = some (g, 0, sz)) → Ops sy e a act op.operands → RM sy N0 e m nx W → ∃ v v', K v = true ∧ RV sy e v v' ∧ ∀ (o : Oper), o.op = op → (execOp act.eval o).run P W = .ok (.value v') W) :
    OpOk P sy N0 W0 G (xR g) op := by
  intro call _ a m nx K KP hb e act W hG hst hops Y Z hK _ o ho
  obtain ⟨v, v', h1, h2, h3⟩ := h a m (fun v => K v m nx) hb e act nx W hG hops hst.rm
  rw [h3 o ho]
  exact hK e v v' m nx W (Env.le_refl e) hst h2 h1
theorem op_load (t : TypeId) (x : Operand) : OpOk P sy N0 W0 G (cOp P G (.load t x)) (.load t x) := by
  simp only [cOp, BX.f, undF_eq, infoF_eq, funF_eq]
  refine xR_ok ?_
  intro a m K h e act nx W hG hops hm
  obtain ⟨v, h1, h2⟩ := cOpd_ok hG hops (x := x) (by simp [Op.operands]) h
  obtain ⟨ad, y, u, h3, h4, h5, h6⟩ := cLoad_ok h1 hm h2
  exact ⟨y, u, h4, h5, fun o ho => by simp [execOp, ho, h3, Instr.loadAt, Instr.sureAddr, h6]⟩

/-! ### Cells laid one behind another -/
theorem setN_eq (t : T AV) (o : Nat) (v : AV) (K : T AV → Bool) : setN t o v K = K (T.set und v o t) := T.setP_eq und v o t K
theorem fillK_cons (x l : AV) (o : Nat) (c : T AV) (K : Nat → T AV → Bool) : fillK (.cons x l) o c K = asCell x (fillK l (o + 1) (T.set und x o c) K) := by
  show asCell x (setN c o x fun c => frcN (Nat.succ o) fun o => fillK l o c K) = _
  rw [setN_eq, frcN_eq]
theorem fillK_eol (o : Nat) (c : T AV) (K : Nat → T AV → Bool) : fillK .eol o c K = K o c := rfl
/-- What a filling leaves. -/
theorem fillK_ok : ∀ (vs : List Value) (l : AV) (o : Nat) (c : T AV) {K : Nat → T AV → Bool}, RL sy e l vs → fillK l o c K = true → ∃ c', K (o + vs.length) c' = true ∧ (∀ v ∈ vs, v.oneCell' = true) ∧
    (o + vs.length ≤ 2 ^ 25 → (∀ i, i < vs.length → ∃ v, vs[i]? = some v ∧ RV sy e (T.get und c' ((o + i))) v ∧ (T.get und c' ((o + i))).cell = true) ∧ ∀ i, i < 2 ^ 25 → (i < o ∨ o + vs.length ≤ i) → T.get und c' i = T.get und c i)
  | [], l, o, c, K, hl, h => by
    cases hl
    exact ⟨c, h, (fun v hv => by cases hv), fun _ => ⟨(fun i hi => by simp at hi), fun i _ _ => rfl⟩⟩
  | v :: vs, l, o, c, K, hl, h => by
    cases hl with
    | cons hx hl =>
      rw [fillK_cons] at h
      obtain ⟨hcell, h1⟩ := asCell_yes h
      obtain ⟨c', h2, h3, h4⟩ := fillK_ok vs _ (o + 1) _ hl h1
      have e1 : o + (v :: vs).length = o + 1 + vs.length := by simp; omega
      refine ⟨c', by rw [e1]; exact h2, fun u hu => ?_, fun hb => ?_⟩
      · rcases List.mem_cons.1 hu with rfl | hu
        · exact hx.one hcell
        · exact h3 u hu
      · obtain ⟨h5, h6⟩ := h4 (by omega)
        refine ⟨fun i hi => ?_, fun i hi1 hi2 => ?_⟩
        · cases i with
          | zero =>
            have := h6 o (by omega) (.inl (by omega))
            refine ⟨v, rfl, ?_, ?_⟩ <;> rw [Nat.add_zero, this, T.get_set]
            · exact hx
            · exact hcell
          | succ i =>
            obtain ⟨u, h7, h8, h9⟩ := h5 i (by simpa using hi)
            have e2 : o + (i + 1) = o + 1 + i := by omega
            exact ⟨u, by simpa using h7, by rw [e2]; exact h8, by rw [e2]; exact h9⟩
        · rw [h6 i hi1 (by omega), T.get_set_ne _ _ _ _ _ (fun eb => by
            have := bitsOf_inj (by omega) hi1 eb
            omega)]
theorem RM.congr {m' : M} (h : RM sy N0 e m nx W) (hm : ∀ q, m'.at q = m.at q) : RM sy N0 e m' nx W :=
  ⟨fun p B r base sz h1 h2 => h.blk p B r base sz (by rw [← hm]; exact h1) h2, fun p p' B B' x x' h1 h2 => h.inj p p' B B' x x' (by rw [← hm]; exact h1) (by rw [← hm]; exact h2), h.nm, h.lt, h.nb, fun p B hB => let ⟨h1, h2, h3⟩ := h.res p B hB; ⟨h1, by rw [hm]; exact h2, h3⟩⟩
/-- Cells are stored, in memory and in the world. -/
theorem RM.fill : ∀ (vs : List Value) (l : AV) (o : Nat) (m : M) (W : World) (B : AB) {p : Nat} {r base sz : Nat} {K : Nat → T AV → Bool}, RM sy N0 e m nx W → m.at p = some B → e p = some (r, base, sz) → o ≤ B.n → o + vs.length ≤ sz → RL sy e l vs → fillK l o B.c K = true →
    (o + vs.length ≤ top → ∃ c', K (o + vs.length) c' = true ∧ RM sy N0 e (T.set none (some ⟨c', max B.n (o + vs.length), B.fz, B.ro⟩) p m) nx (W.setCells r (base + o) vs))
  | [], l, o, m, W, B, p, r, base, sz, K, hm, hp, he, ho, hsz, hl, h, ht => by
    cases hl
    refine ⟨B.c, h, hm.congr fun q => ?_⟩
    by_cases hq : p = q
    · subst hq
      rw [M.at_same, hp]
      have : max B.n (o + ([] : List Value).length) = B.n := by simp; omega
      rw [this]
    · rw [M.at_set hq]
  | v :: vs, l, o, m, W, B, p, r, base, sz, K, hm, hp, he, ho, hsz, hl, h, ht => by
    cases hl with
    | cons hx hl =>
      rw [fillK_cons] at h
      obtain ⟨hcell, h1⟩ := asCell_yes h
      simp only [List.length_cons] at hsz ht
      have hm1 := hm.put hp he ho (by omega) (by omega) hx hcell
      have h2 := RM.fill vs _ (o + 1) _ _ ⟨T.set und _ o B.c, max B.n (o + 1), B.fz, B.ro⟩ hm1 M.at_same he (by show o + 1 ≤ max B.n (o + 1); omega) (by omega) hl h1 (by omega)
      obtain ⟨c', h3, h4⟩ := h2
      have e1 : o + (v :: vs).length = o + 1 + vs.length := by simp; omega
      refine ⟨c', by rw [e1]; exact h3, ?_⟩
      have e2 : W.setCells r (base + o) (v :: vs) = (W.setCell ⟨r, base + o, none⟩ v).setCells r (base + (o + 1)) vs := rfl
      rw [e2]
      refine h4.congr fun q => ?_
      by_cases hq : p = q
      · subst hq
        rw [M.at_same, M.at_same]
        have : max B.n (o + (v :: vs).length) = max (max B.n (o + 1)) (o + 1 + vs.length) := by simp; omega
        rw [this]
      · rw [M.at_set hq, M.at_set hq, M.at_set hq]
theorem Below.setCells {B : Nat} {a : World} {r : Nat} (hr : B ≤ r) : ∀ (vs : List Value) (o : Nat) (w : World), Below B a w → Below B a (w.setCells r o vs)
  | [], _, _, h => h
  | v :: vs, o, w, h => Below.setCells hr vs (o + 1) _ (h.setCell (p := ⟨r, o, none⟩) hr v)
theorem size_setCells (r : Nat) : ∀ (vs : List Value) (o : Nat) (w : World), (w.setCells r o vs).heap.size = w.heap.size
  | [], _, _ => rfl
  | v :: vs, o, w => (size_setCells r vs (o + 1) _).trans (World.size_setCell ..)
/-- A store. -/
theorem writeK_ok {g : Bool} {p : Nat} {o r base sz : Nat} {l : AV} {vs : List Value} {K : M → Bool} (h : writeK g m p o l K = true) (hst : St sy N0 W0 e m nx W) (he : e p = some (r, base, sz)) (hg : g = true → o + vs.length ≤ sz) (hl : RL sy e l vs) :
    ∃ m', K m' = true ∧ St sy N0 W0 e m' nx (W.setCells r (base + o) vs) ∧ (∀ v ∈ vs, v.oneCell' = true) ∧ (∀ j, j < vs.length → (W.cell? ⟨r, base + o + j, none⟩).isSome = true) ∧ (∀ j, j < vs.length → W.frozen? ⟨r, base + o + j, none⟩ = false) := by
  obtain ⟨B, hB, h1⟩ := blkK_yes h
  obtain ⟨hro, h2⟩ := ifB_no h1
  obtain ⟨hfz, h3⟩ := ifB_yes h2
  obtain ⟨ho, h4⟩ := ifB_yes h3
  have hfz' := ble_iff.1 hfz
  have ho' := ble_iff.1 ho
  have hH := hst.rm.blk p B r base sz hB he
  obtain ⟨c', h5, hone, _⟩ := fillK_ok vs l o B.c hl h4
  obtain ⟨h6, _⟩ := ifB_yes h5
  simp only [Bool.and_eq_true, Bool.or_eq_true] at h6
  have htop : o + vs.length ≤ top := ble_iff.1 h6.1
  have hsz : o + vs.length ≤ sz := by
    rcases h6.2 with hg' | hn
    · exact hg hg'
    · have := ble_iff.1 hn
      have := hH.n
      omega
  obtain ⟨c', h7, h8⟩ := RM.fill vs l o m W B hst.rm hB he ho' hsz hl h4 htop
  obtain ⟨_, h9⟩ := ifB_yes h7
  rw [frcN_eq, T.setP_eq] at h9
  refine ⟨_, h9, ⟨h8, Below.setCells (hH.own hro) _ _ _ hst.be, by rw [size_setCells]; exact hst.hN⟩, hone, fun j hj => ?_, fun j hj => ?_⟩
  · obtain ⟨v, hv⟩ := hH.there (o + j) (by omega)
    rw [Nat.add_assoc, hv]; rfl
  · rw [Nat.add_assoc]; exact hH.free hro (o + j) (by omega) (by omega)
theorem newF_yes {c : T AV} {n fz : Nat} {K : Nat → M → Nat → Bool} (h : newF m nx c n fz K = true) : nx ≤ top ∧ n ≤ top ∧ m.at nx = none ∧ K nx (T.set none (some ⟨c, n, fz, false⟩) nx m) (nx + 1) = true := by
  obtain ⟨h1, h2⟩ := ifB_yes h
  simp only [Bool.and_eq_true] at h1
  rw [frcN_eq, T.getP_eq] at h2
  cases hq : T.get none m nx with
  | some B => rw [hq] at h2; cases h2
  | none =>
    rw [hq] at h2
    have h3 : (T.setP none (some ⟨c, n, fz, false⟩) nx m fun m => frcN (Nat.succ nx) fun nx' => K nx m nx') = true := h2
    rw [T.setP_eq, frcN_eq] at h3
    exact ⟨ble_iff.1 h1.1, ble_iff.1 h1.2, hq, h3⟩
/-- A new block. -/
theorem newF_ok {c : T AV} {n fz : Nat} {K : Nat → M → Nat → Bool} (h : newF m nx c n fz K = true) (hst : St sy N0 W0 e m nx W) {cs : Array Value} {el : TypeId} (hle : n ≤ cs.size)
    (hc : n ≤ top → ∀ i, i < n → ∃ v, cs[i]? = some v ∧ RV sy e (T.get und c i) v ∧ (T.get und c i).cell = true) :
    ∃ e' m', e.le e' ∧ K nx m' (nx + 1) = true ∧ e' nx = some (W.heap.size, 0, cs.size) ∧ St sy N0 W0 e' m' (nx + 1) (W.alloc (.cells cs el)) := by
  obtain ⟨hnx, hn, _, h2⟩ := newF_yes h
  have hm := hst.rm.make hnx hst.hN (fz := fz) (el := el) hle hn (hc hn)
  exact ⟨_, _, Env.le_new (hst.rm.fresh hnx), h2, Env.new_same, ⟨hm, hst.be.alloc hst.hN _, Nat.le_of_lt (Nat.lt_of_le_of_lt hst.hN (size_alloc W _))⟩⟩
end
end Go.Proofs.YtnkbpjmijeeddaaGreatDoor.Ev
end

section
/- The evaluator's operations that touch no memory, loads and allocations have one outcome. No conditions. -/
namespace Go.Proofs.YtnkbpjmijeeddaaGreatDoor.Ev
open Go Go.RowKit
set_option linter.unusedSimpArgs false
set_option linter.unusedVariables false
def Det {α : Type} (g : (α → Bool) → Bool) : Prop := (∃ v, ∀ K, g K = K v) ∨ ∀ K, g K = false
section
variable {α β : Type}
theorem Det.ret (v : α) : Det (fun K => K v) := .inl ⟨v, fun _ => rfl⟩
theorem Det.no : Det (fun _ : α → Bool => false) := .inr fun _ => rfl
theorem Det.bind {g : (α → Bool) → Bool} (hg : Det g) {h : α → (β → Bool) → Bool} (hh : ∀ v, Det (h v)) : Det (fun K => g (fun v => h v K)) := by
  rcases hg with ⟨v, hv⟩ | hn
  · rcases hh v with ⟨w, hw⟩ | hn
    · exact .inl ⟨w, fun K => (hv _).trans (hw K)⟩
    · exact .inr fun K => (hv _).trans (hn K)
  · exact .inr fun K => hn _
theorem Det.eq {g g' : (α → Bool) → Bool} (h : ∀ K, g K = g' K) (hg : Det g') : Det g := by
  rcases hg with ⟨v, hv⟩ | hn
  · exact .inl ⟨v, fun K => by rw [h, hv]⟩
  · exact .inr fun K => by rw [h, hn]
theorem Det.ifB {b : Bool} {x y : (α → Bool) → Bool} (hx : Det x) (hy : Det y) : Det (fun K => ifB b (x K) (y K)) := by cases b; exact hy; exact hx
theorem Det.ifO {o : Option β} {x : β → (α → Bool) → Bool} {y : (α → Bool) → Bool} (hx : ∀ v, Det (x v)) (hy : Det y) : Det (fun K => ifO o (fun v => x v K) (y K)) := by
  cases o with
  | none => exact hy
  | some v => exact hx v
theorem Det.frcN {n : Nat} {h : Nat → (α → Bool) → Bool} (hh : ∀ n, Det (h n)) : Det (fun K => frcN n fun n => h n K) := Det.eq (fun K => frcN_eq n _) (hh n)
theorem Det.frcI {n : Int} {h : Int → (α → Bool) → Bool} (hh : ∀ n, Det (h n)) : Det (fun K => frcI n fun n => h n K) := Det.eq (fun K => frcI_eq n _) (hh n)
theorem Det.frcB {n : Bool} {h : Bool → (α → Bool) → Bool} (hh : ∀ n, Det (h n)) : Det (fun K => frcB n fun n => h n K) := Det.eq (fun K => frcB_eq n _) (hh n)
theorem Det.wrapK {k : IntKind} {n : Int} {h : Int → (α → Bool) → Bool} (hh : ∀ n, Det (h n)) : Det (fun K => wrapK k n fun n => h n K) := Det.eq (fun K => wrapK_eq k n _) (hh _)
theorem Det.appNs {x y : List Nat} {h : List Nat → (α → Bool) → Bool} (hh : ∀ n, Det (h n)) : Det (fun K => appNs x y fun n => h n K) := Det.eq (fun K => appNs_eq x y _) (hh _)
theorem Det.lenK {x : List Nat} {h : Nat → (α → Bool) → Bool} (hh : ∀ n, Det (h n)) : Det (fun K => lenK x fun n => h n K) := Det.eq (fun K => lenK_eq x _) (hh _)
theorem Det.dropNs {n : Nat} {x : List Nat} {h : List Nat → (α → Bool) → Bool} (hh : ∀ n, Det (h n)) : Det (fun K => dropNs n x fun n => h n K) := Det.eq (fun K => dropNs_eq n x _) (hh _)
theorem Det.takeNs {n : Nat} {x : List Nat} {h : List Nat → (α → Bool) → Bool} (hh : ∀ n, Det (h n)) : Det (fun K => takeNs n x fun n => h n K) := Det.eq (fun K => takeNs_eq n x _) (hh _)
theorem Det.getP {τ : Type} {d : τ} {t : T τ} {p : Nat} {h : τ → (α → Bool) → Bool} (hh : ∀ n, Det (h n)) : Det (fun K => T.getP d t p fun v => h v K) := Det.eq (fun K => T.getP_eq d _ t p) (hh _)
theorem Det.asInt {v : AV} {h : IntKind → Int → (α → Bool) → Bool} (hh : ∀ k n, Det (h k n)) : Det (fun K => asInt v fun k n => h k n K) := by cases v <;> first | exact hh _ _ | exact Det.no
theorem Det.asBool {v : AV} {h : Bool → (α → Bool) → Bool} (hh : ∀ k, Det (h k)) : Det (fun K => asBool v fun k => h k K) := by cases v <;> first | exact hh _ | exact Det.no
theorem Det.asStr {v : AV} {h : List Nat → (α → Bool) → Bool} (hh : ∀ k, Det (h k)) : Det (fun K => asStr v fun k => h k K) := by cases v <;> first | exact hh _ | exact Det.no
theorem Det.asRef {v : AV} {h : Nat → Nat → (α → Bool) → Bool} (hh : ∀ k n, Det (h k n)) : Det (fun K => asRef v fun k n => h k n K) := by cases v <;> first | exact hh _ _ | exact Det.no
theorem Det.asSlc {v : AV} {h : Nat → Nat → Nat → Nat → Option Nat → (α → Bool) → Bool} {y : (α → Bool) → Bool} (hh : ∀ p o e n c, Det (h p o e n c)) (hy : Det y) : Det (fun K => asSlc v (fun p o e n c => h p o e n c K) (y K)) := by
  cases v with
  | slc p o e n c => exact hh _ _ _ _ _
  | nil k => cases k <;> first | exact hy | exact Det.no
  | _ => exact Det.no
theorem Det.asFn {v : AV} {h : FuncId → AV → AV → (α → Bool) → Bool} (hh : ∀ f x c, Det (h f x c)) : Det (fun K => asFn v fun f x c => h f x c K) := by cases v <;> first | exact hh _ _ _ | exact Det.no
theorem Det.asIfc {v : AV} {h : Nat → AV → (α → Bool) → Bool} {y : (α → Bool) → Bool} (hh : ∀ t w, Det (h t w)) (hy : Det y) : Det (fun K => asIfc v (fun t w => h t w K) (y K)) := by
  cases v with
  | ifc t w => exact hh _ _
  | nil k => cases k <;> first | exact hy | exact Det.no
  | _ => exact Det.no
theorem Det.asAgg {v : AV} {h : AV → (α → Bool) → Bool} (hh : ∀ k, Det (h k)) : Det (fun K => asAgg v fun k => h k K) := by cases v <;> first | exact hh _ | exact Det.no
theorem Det.asTup {v : AV} {h : AV → (α → Bool) → Bool} (hh : ∀ k, Det (h k)) : Det (fun K => asTup v fun k => h k K) := by cases v <;> first | exact hh _ | exact Det.no
theorem Det.asCons {v : AV} {h : AV → AV → (α → Bool) → Bool} (hh : ∀ x l, Det (h x l)) : Det (fun K => asCons v fun x l => h x l K) := by cases v <;> first | exact hh _ _ | exact Det.no
theorem Det.asCell {v : AV} {y : (α → Bool) → Bool} (hy : Det y) : Det (fun K => asCell v (y K)) := by cases v <;> first | exact hy | exact Det.no
theorem Det.asNat {v : Int} {h : Nat → (α → Bool) → Bool} (hh : ∀ k, Det (h k)) : Det (fun K => asNat v fun k => h k K) := by cases v <;> first | exact hh _ | exact Det.no
theorem Det.opd {G : Nat} {x : Operand} {a : T AV} {h : AV → (α → Bool) → Bool} (hh : ∀ k, Det (h k)) : Det (fun K => (cOpd G x).k a fun k => h k K) := by
  refine Det.bind ?_ hh
  cases x with
  | tmp t => cases hb : Nat.blt t top with
    | true => simp only [cOpd, hb, BO.k]; exact Det.getP fun v => Det.ret v
    | false => simp only [cOpd, hb, BO.k]; exact Det.no
  | const v => cases hv : absF 8 v with
    | none => simp only [cOpd, hv, BO.k]; exact Det.no
    | some w => simp only [cOpd, hv, BO.k]; exact Det.ret w
  | global g => cases hb : Nat.blt g G with
    | true => simp only [cOpd, hb, BO.k]; exact Det.ret _
    | false => simp only [cOpd, hb, BO.k]; exact Det.no
  | func f => exact Det.ret _
theorem Det.opds {G : Nat} {a : T AV} : ∀ (xs : List Operand) {h : AV → (α → Bool) → Bool} (hh : ∀ k, Det (h k)), Det (fun K => (cOpds G xs).k a fun k => h k K)
  | [], h, hh => hh _
  | x :: xs, h, hh => by
    show Det (fun K => (cOpd G x).k a fun v => (cOpds G xs).k a fun w => h (.cons v w) K)
    exact Det.opd fun v => Det.opds xs fun w => hh _
theorem Det.dropA : ∀ (n : Nat) (l : AV) {h : AV → (α → Bool) → Bool} (hh : ∀ k, Det (h k)), Det (fun K => dropA n l fun k => h k K)
  | 0, l, h, hh => hh l
  | n + 1, l, h, hh => by
    show Det (fun K => Ev.asCons l fun _ l => Ev.dropA n l fun k => h k K)
    exact Det.asCons fun _ l => Det.dropA n l hh
theorem Det.takeA : ∀ (n : Nat) (l : AV) {h : AV → (α → Bool) → Bool} (hh : ∀ k, Det (h k)), Det (fun K => takeA n l fun k => h k K)
  | 0, l, h, hh => hh _
  | n + 1, l, h, hh => by
    show Det (fun K => Ev.asCons l fun x l => Ev.takeA n l fun l => h (.cons x l) K)
    exact Det.asCons fun x l => Det.takeA n l fun l => hh _
theorem Det.setA : ∀ (n : Nat) (x l : AV) {h : AV → (α → Bool) → Bool} (hh : ∀ k, Det (h k)), Det (fun K => setA n x l fun k => h k K)
  | 0, x, l, h, hh => by
    show Det (fun K => Ev.asCons l fun _ l => h (.cons x l) K)
    exact Det.asCons fun _ l => hh _
  | n + 1, x, l, h, hh => by
    show Det (fun K => Ev.asCons l fun y l => Ev.setA n x l fun l => h (.cons y l) K)
    exact Det.asCons fun y l => Det.setA n x l fun l => hh _
theorem foldAV_cons {γ : Type} (e : γ) (c : AV → γ → γ) (x l : AV) : foldAV e c (.cons x l) = c x (foldAV e c l) := rfl
/-- By the list's form. -/
theorem av_list (P : AV → Prop) (hc : ∀ x l, P l → P (.cons x l)) (ho : ∀ v, (∀ x l, v ≠ .cons x l) → P v) : ∀ v, P v := by
  intro v
  induction v with
  | cons x l _ ih => exact hc x l ih
  | _ => exact ho _ (fun _ _ h => by cases h)
theorem foldAV_end {γ : Type} (e : γ) (c : AV → γ → γ) (v : AV) (h : ∀ x l, v ≠ .cons x l) : foldAV e c v = e := by
  cases v <;> first | rfl | exact absurd rfl (h _ _)
theorem Det.pourA (w : AV) : ∀ (o : Nat) (l : AV) {h : AV → (α → Bool) → Bool} (hh : ∀ k, Det (h k)), Det (fun K => pourA w o l fun k => h k K) := by
  induction w using av_list with
  | hc x w ih =>
    intro o l h hh
    show Det (fun K => Ev.setA o x l fun l => Ev.frcN (Nat.succ o) fun o => Ev.pourA w o l fun k => h k K)
    exact Det.setA o x l fun l => Det.frcN fun o => ih o l hh
  | ho v hv =>
    intro o l h hh
    refine Det.eq (g' := h l) (fun K => ?_) (hh l)
    have e0 := foldAV_end (γ := Nat → AV → (AV → Bool) → Bool) (fun _ l K => K l) (fun x r o l K => Ev.setA o x l fun l => Ev.frcN (Nat.succ o) fun o => r o l K) v hv
    exact congrFun (congrFun (congrFun e0 o) l) _
theorem Det.part {P : Program} {t : TypeId} {off : Nat} {l : AV} {h : AV → (α → Bool) → Bool} (hh : ∀ k, Det (h k)) : Det (fun K => (cPart P t off).f l fun k => h k K) := by
  refine Det.bind ?_ hh
  unfold cPart
  split
  · exact Det.dropA _ _ fun l => Det.takeA _ _ fun l => Det.ret _
  · exact Det.dropA _ _ fun l => Det.asCons fun x _ => Det.ret x
  · exact Det.no
theorem Det.cells {P : Program} {t : TypeId} {v : AV} {h : AV → (α → Bool) → Bool} (hh : ∀ k, Det (h k)) : Det (fun K => (cCells P t).f v fun k => h k K) := by
  refine Det.bind ?_ hh
  unfold cCells
  split
  · exact Det.asAgg fun l => Det.ifB (Det.ret _) Det.no
  · split
    · exact Det.asCell (Det.ret _)
    · exact Det.no
  · exact Det.no
theorem Det.cbuild {P : Program} {G : Nat} {place : Nat → Option (Nat × Nat)} {ty : Nat → Option TypeId} {n : Nat} {a : T AV} : ∀ (ps : List (Nat × Operand)) (l : AV), Det ((cBuild P G place ty n ps).f a l)
  | [], l => Det.ret l
  | (i, x) :: r, l => by
    unfold cBuild
    split
    · split
      · split
        · exact Det.no
        · exact Det.opd fun v => Det.cells fun w => Det.pourA w _ _ fun l => Det.cbuild r l
      · exact Det.no
    · exact Det.no
/-- The same with an outcome of two parts. -/
def Det2 {α β : Type} (g : (α → β → Bool) → Bool) : Prop := (∃ v w, ∀ K, g K = K v w) ∨ ∀ K, g K = false
theorem Det2.bind {γ δ : Type} {g : (γ → δ → Bool) → Bool} (hg : Det2 g) {h : γ → δ → (α → Bool) → Bool} (hh : ∀ v w, Det (h v w)) : Det (fun K => g (fun v w => h v w K)) := by
  rcases hg with ⟨v, w, hv⟩ | hn
  · rcases hh v w with ⟨u, hu⟩ | hn
    · exact .inl ⟨u, fun K => (hv _).trans (hu K)⟩
    · exact .inr fun K => (hv _).trans (hn K)
  · exact .inr fun K => hn _
theorem Det2.fill (w : AV) : ∀ (o : Nat) (c : T AV), Det2 (fun K => fillK w o c K) := by
  induction w using av_list with
  | hc x w ih =>
    intro o c
    rcases ih (o + 1) (T.set und x o c) with ⟨v, u, hv⟩ | hn
    · cases hx : x.cell with
      | true =>
        refine .inl ⟨v, u, fun K => ?_⟩
        show fillK (.cons x w) o c K = K v u
        have hv' : fillK w (o + 1) (T.set und x o c) K = K v u := hv K
        rw [fillK_cons, hv']
        revert hx; cases x <;> intro hx <;> first | rfl | cases hx
      | false =>
        refine .inr fun K => ?_
        show fillK (.cons x w) o c K = false
        rw [fillK_cons]
        revert hx; cases x <;> intro hx <;> first | rfl | cases hx
    · refine .inr fun K => ?_
      show fillK (.cons x w) o c K = false
      have hn' : fillK w (o + 1) (T.set und x o c) K = false := hn K
      rw [fillK_cons, hn']
      cases x <;> rfl
  | ho v hv =>
    intro o c
    refine .inl ⟨o, c, fun K => ?_⟩
    have e0 := foldAV_end (γ := Nat → T AV → (Nat → T AV → Bool) → Bool) (fun o c K => K o c) (fun x r o c K => Ev.asCell x (setN c o x fun c => Ev.frcN (Nat.succ o) fun o => r o c K)) v hv
    exact congrFun (congrFun (congrFun e0 o) c) K
theorem Det.cfill {P : Program} {G : Nat} {e : TypeId} {s n : Nat} {a : T AV} : ∀ (ps : List (Nat × Operand)) (c : T AV), Det ((cFill P G e s n ps).f a c)
  | [], c => Det.ret c
  | (i, x) :: r, c => by
    unfold cFill
    split
    · exact Det.no
    · exact Det.opd fun v => Det.cells fun w => Det2.bind (Det2.fill w _ _) fun _ c => Det.cfill r c
theorem Det2.rep (z : AV) : ∀ (n o : Nat) (c : T AV), Det2 (fun K => repK z n o c K)
  | 0, o, c => .inl ⟨o, c, fun _ => rfl⟩
  | n + 1, o, c => by
    rcases Det2.fill z o c with ⟨v, w, hv⟩ | hn
    · rcases Det2.rep z n v w with ⟨v', w', hv'⟩ | hn'
      · exact .inl ⟨v', w', fun K => (hv (fun o c => repK z n o c K)).trans (hv' K)⟩
      · exact .inr fun K => (hv (fun o c => repK z n o c K)).trans (hn' K)
    · exact .inr fun K => hn (fun o c => repK z n o c K)
theorem Det.rd {c : T AV} : ∀ (n o : Nat) {h : AV → (α → Bool) → Bool} (hh : ∀ k, Det (h k)), Det (fun K => rdK c n o fun k => h k K)
  | 0, o, h, hh => hh _
  | n + 1, o, h, hh => by
    show Det (fun K => getN c o fun v => Ev.frcN (Nat.succ o) fun o => rdK c n o fun l => h (.cons v l) K)
    exact Det.getP fun v => Det.frcN fun o => Det.rd n o fun l => hh _
theorem Det.blk {m : M} {p : Nat} {h : T AV → Nat → Nat → Bool → (α → Bool) → Bool} (hh : ∀ c n f r, Det (h c n f r)) : Det (fun K => blkK m p fun c n f r => h c n f r K) := by
  refine Det.getP fun B => ?_
  cases B with
  | none => exact Det.no
  | some B => exact hh _ _ _ _
theorem Det.load {P : Program} {t : TypeId} {m : M} {v : AV} : Det ((cLoad P t).f m v) := by
  unfold cLoad
  split
  · exact Det.asRef fun p o => Det.blk fun c n f r => Det.ifB (Det.rd _ _ fun l => Det.ret _) Det.no
  · exact Det.asRef fun p o => Det.blk fun c n f r => Det.ifB (Det.getP fun v => Det.ret v) Det.no
  · exact Det.no
theorem Det.cmp {g : Int → Int → Bool} {f : List Nat → List Nat → Bool} {u v : AV} : Det ((b2Cmp g f).f u v) := by
  cases u with
  | int k a => exact Det.asInt (v := v) fun j b => Det.ifB (Det.frcB fun r => Det.ret _) Det.no
  | str s => exact Det.asStr (v := v) fun t => Det.frcB fun r => Det.ret _
  | _ => exact Det.no
theorem Det.b2int {g : IntKind → Int → Int → (AV → Bool) → Bool} (h : ∀ k a b, Det (g k a b)) {u v : AV} : Det ((b2Int g).f u v) := Det.asInt fun k a => Det.asInt fun j b => Det.ifB (h k a b) Det.no
theorem Det.b2cls {g : IntKind → Int → Int → (AV → Bool) → Bool} {h : Nat → Int → Nat → (AV → Bool) → Bool} (hg : ∀ k a b, Det (g k a b)) (hh : ∀ m r b, Det (h m r b)) {u v : AV} : Det ((b2Cls g h).f u v) := by
  cases u with
  | int k a => exact Det.asInt (v := v) fun j b => Det.ifB (hg k a b) Det.no
  | sym i => exact Det.asInt (v := v) fun j b => Det.asNat fun b => Det.ifB (hh _ _ b) Det.no
  | _ => exact Det.no
theorem det_quoG (k : IntKind) (a b : Int) : Det (quoG k a b) := by
  show Det (fun K => quoG k a b K)
  unfold quoG
  exact Det.ifB Det.no (Det.wrapK fun r => Det.ret _)
theorem det_quoH (m : Nat) (r : Int) (b : Nat) : Det (quoH m r b) := by
  show Det (fun K => quoH m r b K)
  unfold quoH
  generalize symC (Nat.div m b) (Int.tdiv r (Int.ofNat b)) = j
  exact Det.ifB (Det.frcN fun j => Det.ret _) Det.no
theorem det_remG (k : IntKind) (a b : Int) : Det (remG k a b) := by
  show Det (fun K => remG k a b K)
  unfold remG
  exact Det.ifB Det.no (Det.frcI fun r => Det.ret _)
theorem det_remH (m : Nat) (r : Int) (b : Nat) : Det (remH m r b) := by
  show Det (fun K => remH m r b K)
  unfold remH
  exact Det.frcI fun r => Det.ret _
theorem Det.bin {P : Program} {c : Bool} {t : TypeId} (op : BinOp) (u v : AV) : Det ((cBin P c t op).f u v) := by
  have heq : ∀ neg, Det ((b2Eq P c t neg).f u v) := fun neg => by
    unfold b2Eq
    split
    · split
      · exact Det.no
      · exact Det.ifO (fun r => Det.frcB fun r => Det.ret _) Det.no
    · exact Det.ifO (fun r => Det.frcB fun r => Det.ret _) Det.no
    · exact Det.no
  cases op with
  | add =>
    cases u with
    | int k a => exact Det.asInt (v := v) fun j b => Det.ifB (Det.wrapK fun r => Det.ret _) Det.no
    | str s => exact Det.asStr (v := v) fun t => Det.ifB (Det.appNs fun r => Det.ret _) Det.no
    | _ => exact Det.no
  | sub => exact Det.b2int fun k a b => Det.wrapK fun r => Det.ret _
  | mul => exact Det.b2int fun k a b => Det.wrapK fun r => Det.ret _
  | quo => exact Det.b2cls (g := quoG) (h := quoH) det_quoG det_quoH
  | rem => exact Det.b2cls (g := remG) (h := remH) det_remG det_remH
  | and => exact Det.b2int fun k a b => Det.ifO (fun r => Det.frcI fun r => Det.ret _) Det.no
  | or => exact Det.b2int fun k a b => Det.ifO (fun r => Det.frcI fun r => Det.ret _) Det.no
  | xor => exact Det.b2int fun k a b => Det.ifO (fun r => Det.frcI fun r => Det.ret _) Det.no
  | andNot => exact Det.b2int fun k a b => Det.ifO (fun r => Det.frcI fun r => Det.ret _) Det.no
  | shl => exact Det.asInt fun k a => Det.asInt fun _ b => Det.ifB Det.no (Det.frcI fun r => Det.ret _)
  | shr => exact Det.asInt fun k a => Det.asInt fun _ b => Det.ifB Det.no (Det.frcI fun r => Det.ret _)
  | eql => exact heq false
  | neq => exact heq true
  | lss => exact Det.cmp
  | leq => exact Det.cmp
  | gtr => exact Det.cmp
  | geq => exact Det.cmp
theorem Det.nat {G : Nat} {lo : Option Operand} {a : T AV} {d : Nat} {h : Nat → (α → Bool) → Bool} (hh : ∀ k, Det (h k)) : Det (fun K => natK (cBound G lo) a d fun k => h k K) := by
  cases lo with
  | none => exact hh d
  | some x => exact Det.opd (x := x) fun v => Det.asInt fun _ n => Det.asNat hh
theorem Det.cut {G : Nat} {lo hi mx : Option Operand} {a : T AV} {es : Nat} {v : AV} : Det (cutV a (cBound G lo) (cBound G hi) (cBound G mx) es v) := by
  unfold cutV
  refine Det.asSlc (h := fun p o es' n c K => _) (fun p o es' n c => Det.ifB (Det.nat (h := fun l K => _) fun l => Det.nat (h := fun q K => _) fun q => Det.ifB (x := fun K => _) ?_ Det.no) Det.no) (Det.nat fun l => Det.nat fun h => Det.nat fun g => Det.ifB (Det.ret _) Det.no)
  cases mx with
  | none =>
    cases c with
    | none => exact Det.ifB (Det.ifB (Det.frcN fun o => Det.frcN fun n => Det.ret _) Det.no) Det.no
    | some c => exact Det.ifB (Det.ifB (Det.ret _) (Det.frcN fun o => Det.frcN fun n => Det.frcN fun c => Det.ret _)) Det.no
  | some x => exact Det.opd (x := x) fun v => Det.asInt fun _ g => Det.asNat fun g => Det.ifB (Det.ifB (Det.ret _) (Det.frcN fun o => Det.frcN fun n => Det.frcN fun c => Det.ret _)) Det.no
/-- An operation of which memory knows nothing has one outcome. -/
theorem pure_form {P : Program} {G : Nat} : ∀ op : Op, kindOf op = 0 → ∃ g, cOp P G op = xP g ∧ ∀ a, Det (g a) := by
  have no : ∀ op : Op, cOp P G op = xNo → ∃ g, cOp P G op = xP g ∧ ∀ a, Det (g a) := fun op h => ⟨fun _ _ => false, h, fun _ => Det.no⟩
  intro op h
  cases op with
  | move x => simp only [cOp, BX.f, undF_eq, infoF_eq, funF_eq]; exact ⟨_, rfl, fun a => Det.opd fun v => Det.ret v⟩
  | assign x => simp only [cOp, BX.f, undF_eq, infoF_eq, funF_eq]; exact ⟨_, rfl, fun a => Det.opd fun v => Det.ret v⟩
  | pick c x y => simp only [cOp, BX.f, undF_eq, infoF_eq, funF_eq]; exact ⟨_, rfl, fun a => Det.opd fun v => Det.asBool fun b => Det.ifB (Det.opd fun v => Det.ret v) (Det.opd fun v => Det.ret v)⟩
  | nilCheck x =>
    simp only [cOp, BX.f, undF_eq, infoF_eq, funF_eq]
    refine ⟨_, rfl, fun a => Det.opd (h := fun v K => _) fun v => ?_⟩
    cases v <;> first | exact Det.ret _ | exact Det.no
  | extract x i => simp only [cOp, BX.f, undF_eq, infoF_eq, funF_eq]; exact ⟨_, rfl, fun a => Det.opd fun v => Det.asTup fun l => Det.dropA _ _ fun l => Det.asCons fun x _ => Det.ret x⟩
  | field t x i =>
    simp only [cOp, BX.f, undF_eq, infoF_eq, funF_eq]
    split
    · split
      · exact ⟨_, rfl, fun a => Det.opd fun v => Det.asAgg fun l => Det.part fun x => Det.ret x⟩
      · exact ⟨_, rfl, fun _ => Det.no⟩
    · exact ⟨_, rfl, fun _ => Det.no⟩
  | makeInterface t x =>
    simp only [cOp, BX.f, undF_eq, infoF_eq, funF_eq]
    split
    · exact ⟨_, rfl, fun _ => Det.no⟩
    · exact ⟨_, rfl, fun _ => Det.no⟩
    · exact ⟨_, rfl, fun a => Det.opd fun v => Det.ret _⟩
  | makeFunc f x c =>
    cases f with
    | func f => simp only [cOp, BX.f, undF_eq, infoF_eq, funF_eq]; exact ⟨_, rfl, fun a => Det.opds _ fun x => Det.opds _ fun c => Det.ret _⟩
    | _ => exact no _ (by simp only [cOp, BX.f, undF_eq, infoF_eq, funF_eq])
  | build t ps =>
    simp only [cOp, BX.f, undF_eq, infoF_eq, funF_eq]
    split
    · split
      · exact ⟨_, rfl, fun a => Det.bind (Det.cbuild _ _) fun l => Det.ret _⟩
      · exact ⟨_, rfl, fun _ => Det.no⟩
    · split
      · exact ⟨_, rfl, fun a => Det.bind (Det.cbuild _ _) fun l => Det.ret _⟩
      · exact ⟨_, rfl, fun _ => Det.no⟩
    · exact ⟨_, rfl, fun _ => Det.no⟩
  | typeAssert x s t ok =>
    simp only [cOp, BX.f, undF_eq, infoF_eq, funF_eq]
    split
    · exact ⟨_, rfl, fun _ => Det.no⟩
    · split
      · exact ⟨_, rfl, fun a => Det.opd fun v => Det.asIfc (fun t w => Det.ifB (Det.ret _) (Det.ret _)) (Det.ret _)⟩
      · exact ⟨_, rfl, fun a => Det.opd fun v => Det.asIfc (fun t w => Det.ifB (Det.ret _) Det.no) Det.no⟩
    · exact ⟨_, rfl, fun _ => Det.no⟩
  | binOp op t x y yt => simp only [cOp, BX.f, undF_eq, infoF_eq, funF_eq]; exact ⟨_, rfl, fun a => Det.opd fun v => Det.opd fun w => Det.bin op v w⟩
  | unOp op t x =>
    cases op with
    | neg => simp only [cOp, BX.f, undF_eq, infoF_eq, funF_eq]; exact ⟨_, rfl, fun a => Det.opd fun v => Det.asInt fun k n => Det.wrapK fun n => Det.ret _⟩
    | not => simp only [cOp, BX.f, undF_eq, infoF_eq, funF_eq]; exact ⟨_, rfl, fun a => Det.opd fun v => Det.asBool fun b => Det.frcB fun b => Det.ret _⟩
    | _ => exact no _ (by simp only [cOp, BX.f, undF_eq, infoF_eq, funF_eq])
  | convert s d x =>
    simp only [cOp, BX.f, undF_eq, infoF_eq, funF_eq]
    split
    · exact ⟨_, rfl, fun a => Det.opd fun v => Det.asInt fun k n => Det.wrapK fun n => Det.ret _⟩
    · exact ⟨_, rfl, fun a => Det.opd fun v => Det.asInt fun k n => Det.asNat fun n => Det.ifB (Det.ret _) Det.no⟩
    · exact ⟨_, rfl, fun a => Det.opd fun v => Det.asStr fun s => Det.ret _⟩
    · exact ⟨_, rfl, fun _ => Det.no⟩
  | fieldAddr t x i =>
    simp only [cOp, BX.f, undF_eq, infoF_eq, funF_eq]
    split
    · split
      · split
        · exact ⟨_, rfl, fun a => Det.opd fun v => Det.asRef fun p o => Det.frcN fun o => Det.ret _⟩
        · exact ⟨_, rfl, fun _ => Det.no⟩
      · exact ⟨_, rfl, fun _ => Det.no⟩
    · exact ⟨_, rfl, fun _ => Det.no⟩
  | indexAddr t x i =>
    simp only [cOp, BX.f, undF_eq, infoF_eq, funF_eq]
    split
    · split
      · exact ⟨_, rfl, fun a => Det.opd fun v => Det.opd fun w => Det.asInt fun _ k => Det.asNat fun k => Det.asSlc (fun p o e n c => Det.ifB (Det.frcN fun o => Det.ret _) Det.no) Det.no⟩
      · exact ⟨_, rfl, fun _ => Det.no⟩
    · split
      · exact ⟨_, rfl, fun a => Det.opd fun v => Det.opd fun w => Det.asInt fun _ k => Det.asNat fun k => Det.asRef fun p o => Det.ifB (Det.frcN fun o => Det.ret _) Det.no⟩
      · exact ⟨_, rfl, fun _ => Det.no⟩
    · exact ⟨_, rfl, fun _ => Det.no⟩
  | index t x i =>
    simp only [cOp, BX.f, undF_eq, infoF_eq, funF_eq]
    split
    · refine ⟨_, rfl, fun a => Det.opd fun v => Det.opd fun w => Det.asStr fun s => Det.asInt fun _ k => Det.asNat fun k => Det.dropNs (h := fun s K => _) fun s => ?_⟩
      cases s with
      | nil => exact Det.no
      | cons c s => exact Det.ret _
    · split
      · exact ⟨_, rfl, fun a => Det.opd fun v => Det.opd fun w => Det.asAgg fun l => Det.asInt fun _ k => Det.asNat fun k => Det.ifB (Det.part fun x => Det.ret x) Det.no⟩
      · exact ⟨_, rfl, fun _ => Det.no⟩
    · exact ⟨_, rfl, fun _ => Det.no⟩
  | slice t x lo hi mx =>
    simp only [cOp, BX.f, undF_eq, infoF_eq, funF_eq]
    split
    · exact ⟨_, rfl, fun a => Det.opd fun v => Det.asStr fun s => Det.lenK fun n => Det.nat fun l => Det.nat fun q => Det.ifB (Det.takeNs fun s => Det.dropNs fun s => Det.ret _) Det.no⟩
    · split
      · split
        · exact ⟨_, rfl, fun a => Det.opd fun v => Det.cut⟩
        · exact ⟨_, rfl, fun _ => Det.no⟩
      · exact ⟨_, rfl, fun _ => Det.no⟩
    · exact ⟨_, rfl, fun _ => Det.no⟩
  | call c =>
    obtain ⟨cal, args, ts⟩ := c
    cases cal with
    | builtin b =>
      cases b <;> first | (cases h; done) | skip
      · simp only [cOp, BX.f, undF_eq, infoF_eq, funF_eq]
        split
        · split
          · exact ⟨_, rfl, fun a => Det.opd fun v => Det.asStr fun s => Det.lenK fun n => Det.ret _⟩
          · exact ⟨_, rfl, fun a => Det.opd fun v => Det.asSlc (fun p o e n c => Det.ret _) (Det.ret _)⟩
          · exact ⟨_, rfl, fun _ => Det.no⟩
        · exact ⟨_, rfl, fun _ => Det.no⟩
      · simp only [cOp, BX.f, undF_eq, infoF_eq, funF_eq]
        split
        · exact ⟨_, rfl, fun a => Det.opd fun v => Det.opd fun w => Det.asInt fun k m => Det.asInt fun j n => Det.ifB (Det.ifB (Det.ret _) (Det.ret _)) Det.no⟩
        · exact ⟨_, rfl, fun _ => Det.no⟩
      · simp only [cOp, BX.f, undF_eq, infoF_eq, funF_eq]
        split
        · exact ⟨_, rfl, fun a => Det.opd fun v => Det.opd fun w => Det.asInt fun k m => Det.asInt fun j n => Det.ifB (Det.ifB (Det.ret _) (Det.ret _)) Det.no⟩
        · exact ⟨_, rfl, fun _ => Det.no⟩
    | _ => cases h
  | _ => cases h
/-- An allocation has one outcome. -/
def Det3 {α β γ : Type} (g : (α → β → γ → Bool) → Bool) : Prop := (∃ v w u, ∀ K, g K = K v w u) ∨ ∀ K, g K = false
theorem Det3.ret {α β γ : Type} (v : α) (w : β) (u : γ) : Det3 (fun K => K v w u) := .inl ⟨v, w, u, fun _ => rfl⟩
theorem Det3.no {α β γ : Type} : Det3 (fun _ : α → β → γ → Bool => false) := .inr fun _ => rfl
theorem Det3.of {α β γ : Type} {g : (α → β → γ → Bool) → Bool} (h : Det (fun K : α × β × γ → Bool => g fun v w u => K (v, w, u))) : Det3 g := by
  rcases h with ⟨⟨v, w, u⟩, hv⟩ | hn
  · exact .inl ⟨v, w, u, fun K => hv fun x => K x.1 x.2.1 x.2.2⟩
  · exact .inr fun K => hn fun x => K x.1 x.2.1 x.2.2
end
end Go.Proofs.YtnkbpjmijeeddaaGreatDoor.Ev
end

section
/- The evaluator's operations on memory do what the model's do. No conditions. -/
namespace Go.Proofs.YtnkbpjmijeeddaaGreatDoor.Ev
open Go Go.RowKit
set_option linter.unusedSimpArgs false
set_option linter.unusedVariables false
section
variable {sy : Nat → Value} {N0 : Par} {W0 : World} {P : Program} {G : Nat} {e : Env} {m : M} {nx : Nat} {W : World}
theorem cCells_ok {t : TypeId} {v : AV} {u : Value} {K : AV → Bool} (h : (cCells P t).f v K = true) (hv : RV sy e v u) : ∃ l, K l = true ∧ RL sy e l u.cells.toList ∧ ∃ s, sizeAt P t = some s ∧ u.cells.size = s := by
  cases ha : isAgg P t with
  | none => simp only [cCells, ha, B1.f, undF_eq, infoF_eq, funF_eq] at h; cases h
  | some b =>
    cases hs : sizeAt P t with
    | none => cases b <;> simp only [cCells, ha, hs, B1.f, undF_eq, infoF_eq, funF_eq] at h <;> cases h
    | some s =>
      cases b with
      | true =>
        simp only [cCells, ha, hs, B1.f, undF_eq, infoF_eq, funF_eq] at h
        obtain ⟨l, rfl, h1⟩ := asAgg_yes h
        obtain ⟨h2, h3⟩ := ifB_yes h1
        cases hv with
        | agg hl =>
          refine ⟨l, h3, by simpa [Value.cells] using hl, s, rfl, ?_⟩
          have := beq_iff.1 h2
          rw [hl.cntA] at this
          simpa [Value.cells] using this
      | false =>
        cases h1 : Nat.beq s 1 with
        | false => simp only [cCells, ha, hs, h1, B1.f, undF_eq, infoF_eq, funF_eq] at h; cases h
        | true =>
          simp only [cCells, ha, hs, h1, B1.f, undF_eq, infoF_eq, funF_eq] at h
          obtain ⟨h2, h3⟩ := asCell_yes h
          have hone := hv.one h2
          have hcells : u.cells = #[u] := by cases u <;> first | rfl | cases hone
          refine ⟨_, h3, by rw [hcells]; exact .cons hv .eol, s, rfl, ?_⟩
          rw [hcells, beq_iff.1 h1]; rfl
theorem op_store (t : TypeId) (x v : Operand) : OpOk P sy N0 W0 G (cOp P G (.store t x v)) (.store t x v) := by
  simp only [cOp, BX.f, undF_eq, infoF_eq, funF_eq]
  intro call _ a m nx K KP hb e act W hG hst hops Y Z hK _ o ho
  have hb' : (cOpd G x).k a (fun x => (cOpd G v).k a fun v => asRef x fun p o => (cCells P t).f v fun l => writeK false m p o l fun m => K und m nx) = true := hb
  obtain ⟨xv, h1, h2⟩ := cOpd_ok hG hops (x := x) (by simp [Op.operands]) hb'
  obtain ⟨vv, h3, h4⟩ := cOpd_ok hG hops (x := v) (by simp [Op.operands]) h1
  obtain ⟨p, q, rfl, h5⟩ := asRef_yes h3
  obtain ⟨l, h6, h7, s, h8, h9⟩ := cCells_ok h5 h4
  generalize hc : act.eval x = cx at h2
  cases h2 with
  | ref hp =>
    obtain ⟨m', h10, h11, h12, h13, h14⟩ := writeK_ok h6 hst hp (fun h => by cases h) h7
    rename_i r base sz
    have hrun : (execOp act.eval o).run P W = .ok .skip (W.setCells r (base + q) (act.eval v).cells.toList) := by
      have := run_storeCells_cells (P := P) r (base + q) (act.eval v).cells.toList 0 W (by simpa using h13) (by simpa using h14) h12
      simp only [Nat.add_zero] at this
      simp [execOp, ho, hc, Instr.storeAt, Instr.sureAddr, storeVar, sizeAt_run h8, h9, this]
    rw [hrun]
    exact hK e und undef m' nx _ (Env.le_refl e) h11 RV.und h10
theorem op_panic (x : Operand) : OpOk P sy N0 W0 G (cOp P G (.panic x)) (.panic x) := by
  simp only [cOp, BX.f, undF_eq, infoF_eq, funF_eq]
  intro call _ a m nx K KP hb e act W hG hst hops Y Z _ hZ o ho
  have hb' : (cOpd G x).k a (fun v => asIfc v (fun t w => KP (.cons (.ifc t w) .eol) m nx) false) = true := hb
  obtain ⟨v, h1, h2⟩ := cOpd_ok hG hops (x := x) (by simp [Op.operands]) hb'
  rcases asIfc_yes h1 with ⟨t, w, rfl, h3⟩ | ⟨_, h3⟩
  · generalize hc : act.eval x = cx at h2
    cases h2 with
    | ifc hw =>
      rename_i u
      have hrun : (execOp act.eval o).run P W = .halt (.panic (.iface t u)) W := by simp [execOp, ho, hc, Instr.panic, goPanic]
      rw [hrun]
      exact hZ e _ [.iface t u] m nx W (Env.le_refl e) hst (.cons (.ifc hw) .eol) h3
  · cases h3
/-- What an operation that makes a block does. -/
def RawA (P : Program) (sy : Nat → Value) (G : Nat) (op : Op) (g : T AV → (T AV → Nat → (Nat → AV) → Bool) → Bool) : Prop :=
  ∀ a K, g a K = true → ∀ e act, (∀ g, g < G → ∃ sz, e g = some (g, 0, sz)) → Ops sy e a act op.operands → ∃ c n w, K c n w = true ∧ ∃ (cs : Array Value) (el : TypeId) (w' : Nat → Value), n ≤ cs.size ∧
      (n ≤ top → ∀ i, i < n → ∃ v, cs[i]? = some v ∧ RV sy e (T.get und c i) v ∧ (T.get und c i).cell = true) ∧ (∀ e' p r, e' p = some (r, 0, cs.size) → RV sy e' (w p) (w' r)) ∧
      ∀ (o : Oper) (W : World), o.op = op → (execOp act.eval o).run P W = .ok (.value (w' W.heap.size)) (W.alloc (.cells cs el))
/-- An operation that makes a block. -/
theorem xA_ok {op : Op} {g : T AV → (T AV → Nat → (Nat → AV) → Bool) → Bool} (h : RawA P sy G op g) : OpOk P sy N0 W0 G (xA g) op := by
  intro call _ a m nx K KP hb e act W hG hst hops Y Z hK _ o ho
  obtain ⟨c, n, w, h1, cs, el, w', h2, h3, h4, h5⟩ := h a (fun c n w => newK m nx c n fun p m nx => K (w p) m nx) hb e act hG hops
  obtain ⟨e', m', h6, h7, h8, h9⟩ := newF_ok (el := el) h1 hst h2 h3
  rw [h5 o W ho]
  exact hK e' _ _ m' _ _ h6 h9 (h4 _ _ _ h8) h7
theorem allCell_cons {x l : AV} (h : allCell (.cons x l) = true) : x.cell = true ∧ allCell l = true := asCell_yes (K := allCell l) h
theorem fillT_ok : ∀ (vs : List Value) (l : AV) (o : Nat) (c : T AV), RL sy e l vs → allCell l = true → o + vs.length ≤ 2 ^ 25 →
    let c' := foldAV (β := Nat → T AV → T AV) (fun _ c => c) (fun x r o c => T.setP und x o c fun c => r (Nat.succ o) c) l o c
    (∀ i, i < vs.length → ∃ v, vs[i]? = some v ∧ RV sy e (T.get und c' ((o + i))) v ∧ (T.get und c' ((o + i))).cell = true) ∧ ∀ i, i < 2 ^ 25 → (i < o ∨ o + vs.length ≤ i) → T.get und c' i = T.get und c i
  | [], l, o, c, hl, _, _ => by
    cases hl
    exact ⟨(fun i hi => by simp at hi), fun i _ _ => rfl⟩
  | v :: vs, l, o, c, hl, hcell, hb => by
    cases hl with
    | cons hx hl =>
      rename_i x l
      obtain ⟨h1, h2⟩ := allCell_cons hcell
      simp only [List.length_cons] at hb
      have ih := fillT_ok vs l (o + 1) (T.set und x o c) hl h2 (by omega)
      have e0 : foldAV (β := Nat → T AV → T AV) (fun _ c => c) (fun x r o c => T.setP und x o c fun c => r (Nat.succ o) c) (.cons x l) o c = foldAV (β := Nat → T AV → T AV) (fun _ c => c) (fun x r o c => T.setP und x o c fun c => r (Nat.succ o) c) l (o + 1) (T.set und x o c) :=
        T.setP_eq und x o c _
      rw [e0]
      obtain ⟨h5, h6⟩ := ih
      refine ⟨fun i hi => ?_, fun i hi1 hi2 => ?_⟩
      · cases i with
        | zero =>
          have := h6 o (by omega) (.inl (by omega))
          have e3 : (o + 0) = o := rfl
          refine ⟨v, rfl, ?_, ?_⟩ <;> rw [e3, this, T.get_set]
          · exact hx
          · exact h1
        | succ i =>
          obtain ⟨u, h7, h8, h9⟩ := h5 i (by simpa using hi)
          have e2 : o + (i + 1) = o + 1 + i := by omega
          exact ⟨u, by simpa using h7, by rw [e2]; exact h8, by rw [e2]; exact h9⟩
      · rw [h6 i hi1 (by simp only [List.length_cons] at hi2; omega), T.get_set_ne _ _ _ _ _ (fun eb => by
          have := bitsOf_inj (by omega) hi1 eb
          simp only [List.length_cons] at hi2
          omega)]
theorem zeroL_ok {t : TypeId} {z : AV} (h : zeroL P t = some z) : ∃ v, RL sy e z v.cells.toList ∧ allCell z = true ∧ ∀ W, (zeroValue t).run P W = .ok v W := by
  cases ha : isAgg P t with
  | none => simp only [zeroL, ha, undF_eq, infoF_eq, funF_eq] at h; cases h
  | some b =>
    cases hz : zeroA P t with
    | none => cases b <;> simp only [zeroL, ha, hz, undF_eq, infoF_eq, funF_eq] at h <;> cases h
    | some zv =>
      obtain ⟨v, h1, h2⟩ := zeroA_run (sy := sy) (e := e) hz
      cases b with
      | true =>
        cases zv with
        | agg l =>
          cases hc : allCell l with
          | false => simp only [zeroL, ha, hz, hc, undF_eq, infoF_eq, funF_eq] at h; cases h
          | true =>
            simp only [zeroL, ha, hz, hc, undF_eq, infoF_eq, funF_eq] at h
            cases h
            cases h1 with
            | agg hl => exact ⟨_, by simpa [Value.cells] using hl, hc, h2⟩
        | _ => simp only [zeroL, ha, hz, undF_eq, infoF_eq, funF_eq] at h; cases h
      | false =>
        cases hc : allCell (.cons zv .eol) with
        | false => simp only [zeroL, ha, hz, hc, undF_eq, infoF_eq, funF_eq] at h; cases h
        | true =>
          simp only [zeroL, ha, hz, hc, undF_eq, infoF_eq, funF_eq] at h
          cases h
          have hone := h1.one (allCell_cons hc).1
          have hcells : v.cells = #[v] := by cases v <;> first | rfl | cases hone
          exact ⟨v, by rw [hcells]; exact .cons h1 .eol, hc, h2⟩
theorem raw_alloc (t : TypeId) : (∃ g, cOp P G (.alloc t) = xA g ∧ RawA P sy G (.alloc t) g ∧ ∀ a, Det3 (g a)) ∨ cOp P G (.alloc t) = xNo := by
  cases hz : zeroL P t with
  | none => simp only [cOp, hz, BX.f, undF_eq, infoF_eq, funF_eq]; exact .inr (by trivial)
  | some z =>
    simp only [cOp, hz, BX.f, undF_eq, infoF_eq, funF_eq]
    refine .inl ⟨_, rfl, ?_, fun a => Det3.ret _ _ _⟩
    intro a K h e act hG hops
    obtain ⟨v, h1, h2, h3⟩ := zeroL_ok (sy := sy) (e := e) hz
    refine ⟨_, _, _, h, v.cells, t, fun r => .pointer (some ⟨r, 0, none⟩), ?_, fun ht i hi => ?_, fun e' p r hp => ?_, fun o W ho => ?_⟩
    · rw [h1.cntA]; simp
    · rw [h1.cntA] at ht hi
      obtain ⟨u, h7, h8, h9⟩ := (fillT_ok v.cells.toList z 0 .leaf h1 h2 (by rw [Nat.zero_add]; unfold top at ht; omega)).1 i hi
      rw [Nat.zero_add] at h8 h9
      exact ⟨u, by simpa using h7, h8, h9⟩
    · exact .ref (o := 0) hp
    · simp [execOp, ho, Instr.alloc, h3, newVar, newRow]
theorem op_alloc (t : TypeId) : OpOk P sy N0 W0 G (cOp P G (.alloc t)) (.alloc t) := by
  rcases raw_alloc (P := P) (sy := sy) (G := G) t with ⟨g, h1, h2, _⟩ | h
  · rw [h1]; exact xA_ok h2
  · rw [h]; exact xNo_ok
theorem raw_box (t : TypeId) (x : Operand) : (∃ g, cOp P G (.box t x) = xA g ∧ RawA P sy G (.box t x) g ∧ ∀ a, Det3 (g a)) ∨ cOp P G (.box t x) = xNo := by
  simp only [cOp, BX.f, undF_eq, infoF_eq, funF_eq]
  refine .inl ⟨_, rfl, ?_, fun a => Det3.of (Det.opd fun v => Det.cells fun l => Det2.bind (Det2.fill _ _ _) fun n c => Det.ret _)⟩
  intro a K h e act hG hops
  obtain ⟨v, h1, h2⟩ := cOpd_ok hG hops (x := x) (by simp [Op.operands]) h
  obtain ⟨l, h3, h4, s, h5, h6⟩ := cCells_ok h1 h2
  obtain ⟨c', h7, h8, h9⟩ := fillK_ok _ l 0 .leaf h4 h3
  refine ⟨_, _, _, h7, (act.eval x).cells, t, fun r => .pointer (some ⟨r, 0, none⟩), by simp, fun ht i hi => ?_, fun e' p r hp => .ref (o := 0) hp, fun o W ho => ?_⟩
  · have := (h9 (by unfold top at ht; omega)).1 i (by simpa using hi)
    simpa using this
  · simp [execOp, ho, Instr.box, newVar, newRow]
theorem op_box (t : TypeId) (x : Operand) : OpOk P sy N0 W0 G (cOp P G (.box t x)) (.box t x) := by
  rcases raw_box (P := P) (sy := sy) (G := G) t x with ⟨g, h1, h2, _⟩ | h
  · rw [h1]; exact xA_ok h2
  · rw [h]; exact xNo_ok
/-! ### append -/
theorem bytesCells_ok : ∀ (s : List Nat) (bs : List UInt8), bs.map UInt8.toNat = s → ∀ {K : AV → Bool}, cellsNs s K = true → ∃ l, K l = true ∧ RL sy e l (bs.map fun b => Value.int .u8 b.toNat)
  | [], bs, hb, K, h => by
    cases bs with
    | nil => exact ⟨.eol, h, .eol⟩
    | cons b bs => cases hb
  | n :: s, bs, hb, K, h => by
    cases bs with
    | nil => cases hb
    | cons b bs =>
      injection hb with h1 h2
      obtain ⟨l, h3, h4⟩ := bytesCells_ok s bs h2 (K := fun l => K (.cons (.int .u8 (.ofNat n)) l)) h
      refine ⟨_, h3, .cons ?_ h4⟩
      rw [← h1]; exact .int _ _
theorem Src.world {size : Nat} {tx : TypeId} {x : Value} {n : Nat} {news : List Value} {W' : World} (hk : (∃ e', P.underlying tx = some (.slice e')) ∨ P.underlying tx = some .string)
    (hl : ∀ w' : World, (Builtin.lenOf x).run P w' = .ok n w') (hc : ∀ W' : World, (∀ a, W'.cell? a = W.cell? a) → (Builtin.firstCells size n x).run P W' = .ok news.toArray W') (hn : news.length = n * size) (h1 : ∀ u ∈ news, u.oneCell' = true) : Src P size tx x n news W :=
  ⟨hk, hl, hc W (fun _ => rfl), hc W.drew (fun _ => rfl), hn, h1⟩
/-- What append and copy take. -/
theorem srcK_ok {es : Nat} {y : AV} {u : Value} {K : Nat → AV → Bool} (h : srcK es m y K = true) (hm : RM sy N0 e m nx W) (hy : RV sy e y u) : ∃ n l news, K n l = true ∧ RL sy e l news ∧ news.length = n * es ∧ (∀ u ∈ news, u.oneCell' = true) ∧
    (∀ w' : World, (Builtin.lenOf u).run P w' = .ok n w') ∧ (∀ W' : World, (∀ a, W'.cell? a = W.cell? a) → (Builtin.firstCells es n u).run P W' = .ok news.toArray W') ∧ ((∃ s, u = .string s ∧ es = 1) ∨ (∃ A k c, u = .slice A k c)) := by
  cases y with
  | str s =>
    obtain ⟨h1, h2⟩ := ifB_yes (b := Nat.beq es 1) (x := lenK s fun n => cellsNs s fun l => K n l) h
    obtain rfl := beq_iff.1 h1
    rw [lenK_eq] at h2
    cases hy with
    | str hs =>
      rename_i b
      obtain ⟨l, h3, h4⟩ := bytesCells_ok (sy := sy) (e := e) s b.data.toList hs h2
      have hsz := str_size hs
      refine ⟨_, l, byteCells b, h3, h4, by rw [byteCells_length, hsz, Nat.mul_one], fun u hu => ?_, fun w' => by simp [Builtin.lenOf, hsz], fun W' _ => by rw [← hsz]; exact firstCells_string b W', .inl ⟨b, rfl, rfl⟩⟩
      obtain ⟨_, _, rfl⟩ := List.mem_map.1 hu
      rfl
  | slc p o es' n c =>
    obtain ⟨h1, h2⟩ := ifB_yes (b := Nat.beq es' es) (x := frcN (Nat.mul n es) fun w => readK m p o w fun l => K n l) h
    obtain rfl := beq_iff.1 h1
    rw [frcN_eq] at h2
    cases hy with
    | slc hp hn hsz hcap =>
      obtain ⟨l, vs, h3, h4, h5, h6, h7, _⟩ := readK_ok h2 hm hp
      refine ⟨n, l, vs, h3, h4, h5, h7, fun _ => rfl, fun W' hW' => ?_, .inr ⟨_, _, _, rfl⟩⟩
      exact run_firstCells_some W' _ n _ _ _ vs h5 (fun j v hv => by rw [hW', Addr.add_lit]; exact h6 j v hv)
  | nil k => cases k with
    | s =>
      cases hy
      exact ⟨0, .eol, [], h, .eol, by simp, (fun u hu => by cases hu), (fun _ => rfl), (fun W' _ => run_firstCells_none W' es 0 0 0), .inr ⟨_, _, _, rfl⟩⟩
    | _ => cases h
  | _ => cases h
theorem grow_fits {need old bytes : Nat} (h : old < need) (hn : need ≤ 20000000) (hb : bytes ≤ 1000000) : Builtin.nextslicecap need old * bytes ≤ 281474976710656 :=
  growslice_fits h (by
    have : need * bytes ≤ 20000000 * 1000000 := Nat.mul_le_mul hn hb
    omega)
end
end Go.Proofs.YtnkbpjmijeeddaaGreatDoor.Ev
end
