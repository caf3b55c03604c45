/- The evaluator's operations that touch no memory do what the model's do, second part. No conditions. -/
import Derived.Test.YtdoddlkppkegnaaGreatDoorEvE
namespace Go.Proofs.YtdoddlkppkegnaaGreatDoor.Ev
set_option linter.unusedVariables false
open Go Go.RowKit
set_option linter.unusedSimpArgs false
section
variable {P : Program} {sy : Nat → Value} {e : Env}
theorem equal_deep (t : TypeId) (x y : Value) : Op.equal t x y = Op.equalIn (9999 + 1) t x y := rfl
theorem isC_const {x y : Operand} (h : (isC x || isC y) = true) : (∃ v, x = .const v) ∨ ∃ v, y = .const v := by
  cases x <;> cases y <;> first | exact .inl ⟨_, rfl⟩ | exact .inr ⟨_, rfl⟩ | cases h
/-- Equality of what is neither a number nor a string. -/
theorem bin_other {t : TypeId} {x y : Operand} {u v : Value} {r : Bool} {W : World} (hg : ∀ op, (eqGuard op t x y u v).run P W = .ok () W)
    (h1 : binOp .eql t u v = (do pure (.bool (← Op.equal t u v)))) (h2 : binOp .neq t u v = (do pure (.bool (!(← Op.equal t u v))))) (he : ∀ d, (Op.equalIn (d + 1) t u v).run P W = .ok r W) :
    (binSem .eql t x y u v).run P W = .ok (.bool r) W ∧ (binSem .neq t x y u v).run P W = .ok (.bool (!r)) W := by
  have he' := he 9999
  constructor
  · simp only [binSem, Sem.run_bind, hg, Result.andThen_ok, h1, equal_deep, he', Sem.run_pure]
  · simp only [binSem, Sem.run_bind, hg, Result.andThen_ok, h2, equal_deep, he', Sem.run_pure]
theorem guard_ok {t : TypeId} {x y : Operand} {u v : Value} {W : World} (hu : (∀ l, u ≠ .agg l)) (h : u ≠ .nilIface ∨ v ≠ .nilIface) (op : BinOp) : (eqGuard op t x y u v).run P W = .ok () W := by
  have key : eqGuard op t x y u v = pure () := by
    cases u with
    | agg l => exact absurd rfl (hu l)
    | nilIface =>
      cases v with
      | nilIface => rcases h with h | h <;> exact absurd rfl h
      | _ => cases op <;> rfl
    | _ => cases op <;> rfl
  rw [key]; rfl
theorem eqAt_run {t : TypeId} {d : TypeDesc} {c : Bool} {x y : AV} {r : Bool} {u v : Value} (hd : P.underlying t = some d) (h : eqAt d c x y = some r) (hu : RV sy e x u) (hv : RV sy e y v) {xo yo : Operand} (hc : c = true → (isC xo || isC yo) = true) (W : World) :
    (binSem .eql t xo yo u v).run P W = .ok (.bool r) W ∧ (binSem .neq t xo yo u v).run P W = .ok (.bool (!r)) W := by
  cases d with
  | bool =>
    cases x with
    | bool a => cases y with
      | bool b => cases h; cases hu; cases hv; exact bin_other (guard_ok (fun _ h => by cases h) (.inl (fun h => by cases h))) rfl rfl (fun d => run_equalIn_bool' _ _ _ _ _ hd)
      | _ => cases h
    | _ => cases h
  | int k =>
    cases x with
    | int j a => cases y with
      | int i b =>
        obtain ⟨hk, rfl⟩ := ifB_some h
        obtain rfl := sameK_yes hk
        cases hu; cases hv
        rw [guard_int, guard_int, eqI_eq]
        constructor <;> simp [binOp, Op.intCmp] <;> rfl
      | _ => cases h
    | _ => cases h
  | string =>
    cases x with
    | str a => cases y with
      | str b =>
        cases h
        cases hu with | str hs => cases hv with | str hr =>
        rw [guard_str, guard_str, eqNs_str hs hr]
        constructor <;> simp [binOp, Op.stringOp]
      | _ => cases h
    | _ => cases h
  | pointer el =>
    cases x with
    | nil k => cases k with
      | p => cases y with
        | nil k => cases k <;> cases h; cases hu; cases hv; exact bin_other (guard_ok (fun _ h => by cases h) (by first | (left; intro h; cases h; done) | (right; intro h; cases h; done))) rfl rfl (fun d => by simp [Op.equalIn, run_underlying hd])
        | ref p o => cases h; cases hu; cases hv; exact bin_other (guard_ok (fun _ h => by cases h) (by first | (left; intro h; cases h; done) | (right; intro h; cases h; done))) rfl rfl (fun d => by simp [Op.equalIn, run_underlying hd])
        | _ => cases h
      | _ => cases y <;> cases h
    | ref p o => cases y with
      | nil k => cases k <;> cases h; cases hu; cases hv; exact bin_other (guard_ok (fun _ h => by cases h) (by first | (left; intro h; cases h; done) | (right; intro h; cases h; done))) rfl rfl (fun d => by simp [Op.equalIn, run_underlying hd])
      | _ => cases h
    | _ => cases h
  | slice el =>
    cases x with
    | nil k => cases k with
      | s => cases y with
        | nil k => cases k <;> cases h; cases hu; cases hv; exact bin_other (guard_ok (fun _ h => by cases h) (by first | (left; intro h; cases h; done) | (right; intro h; cases h; done))) rfl rfl (fun d => by simp [Op.equalIn, run_underlying hd])
        | slc p o es n c => cases h; cases hu; cases hv; exact bin_other (guard_ok (fun _ h => by cases h) (by first | (left; intro h; cases h; done) | (right; intro h; cases h; done))) rfl rfl (fun d => by simp [Op.equalIn, run_underlying hd])
        | _ => cases h
      | _ => cases y <;> cases h
    | slc p o es n c => cases y with
      | nil k => cases k <;> cases h; cases hu; cases hv; exact bin_other (guard_ok (fun _ h => by cases h) (by first | (left; intro h; cases h; done) | (right; intro h; cases h; done))) rfl rfl (fun d => by simp [Op.equalIn, run_underlying hd])
      | _ => cases h
    | _ => cases h
  | func ps rs vr =>
    cases x with
    | nil k => cases k with
      | f => cases y with
        | nil k => cases k <;> cases h; cases hu; cases hv; exact bin_other (guard_ok (fun _ h => by cases h) (by first | (left; intro h; cases h; done) | (right; intro h; cases h; done))) rfl rfl (fun d => by simp [Op.equalIn, run_underlying hd])
        | fn f x c => cases h; cases hu; cases hv; exact bin_other (guard_ok (fun _ h => by cases h) (by first | (left; intro h; cases h; done) | (right; intro h; cases h; done))) rfl rfl (fun d => by simp [Op.equalIn, run_underlying hd])
        | _ => cases h
      | _ => cases y <;> cases h
    | fn f x c => cases y with
      | nil k => cases k <;> cases h; cases hu; cases hv; exact bin_other (guard_ok (fun _ h => by cases h) (by first | (left; intro h; cases h; done) | (right; intro h; cases h; done))) rfl rfl (fun d => by simp [Op.equalIn, run_underlying hd])
      | _ => cases h
    | _ => cases h
  | interface ms =>
    cases x with
    | nil k => cases k with
      | i => cases y with
        | nil k =>
          cases k <;> first | (cases h; done) | skip
          obtain ⟨hc', rfl⟩ := ifB_some h
          cases hu; cases hv
          refine bin_other (fun op => ?_) rfl rfl (fun d => by simp [Op.equalIn, run_underlying hd])
          rcases isC_const (hc hc') with ⟨w, rfl⟩ | ⟨w, rfl⟩ <;> cases op <;> simp [eqGuard]
        | ifc t v => cases h; cases hu; cases hv; exact bin_other (guard_ok (fun _ h => by cases h) (by first | (left; intro h; cases h; done) | (right; intro h; cases h; done))) rfl rfl (fun d => by simp [Op.equalIn, run_underlying hd])
        | _ => cases h
      | _ => cases y <;> cases h
    | ifc t v => cases y with
      | nil k => cases k <;> cases h; cases hu; cases hv; exact bin_other (guard_ok (fun _ h => by cases h) (by first | (left; intro h; cases h; done) | (right; intro h; cases h; done))) rfl rfl (fun d => by simp [Op.equalIn, run_underlying hd])
      | _ => cases h
    | _ => cases h
  | _ => cases h
theorem b2_eq {t : TypeId} {c neg : Bool} {op : BinOp} (hop : op = if neg then .neq else .eql) : B2Ok P op t c (b2Eq P c t neg) := by
  cases hu : P.underlying t with
  | none => simp only [b2Eq, hu, B2.f, undF_eq, infoF_eq, funF_eq]; exact b2No
  | some d =>
    by_cases hst : ∃ fs, d = .struct fs
    · obtain ⟨fs, rfl⟩ := hst
      cases hg : Program.eqGuardType P P.depth t with
      | true => simp only [b2Eq, hu, hg, B2.f, undF_eq, infoF_eq, funF_eq]; exact b2No
      | false =>
        simp only [b2Eq, hu, hg, B2.f, undF_eq, infoF_eq, funF_eq]
        intro u v K hb sy e u' v' hru hrv
        obtain ⟨r, h1, h2⟩ := ifO_yes hb
        rw [frcB_eq] at h2
        have hrun := fun W => eqT_run 9 10000 (by omega) t u v r u' v' h1 hru hrv W
        have hshape : (∃ a, u' = .agg a) ∧ (∃ b, v' = .agg b) := by
          have h1' := h1
          unfold eqT at h1'
          try simp only [undF_eq, infoF_eq, funF_eq] at h1'
          rw [hu] at h1'
          cases u <;> cases v <;> first | (cases h1'; done) | (cases hru; cases hrv; exact ⟨⟨_, rfl⟩, ⟨_, rfl⟩⟩)
        obtain ⟨⟨a, rfl⟩, ⟨b, rfl⟩⟩ := hshape
        refine ⟨_, _, h2, .bool _, fun W x y _ => ?_⟩
        subst hop
        cases neg with
        | true =>
          simp only [binSem, if_true, Sem.run_bind, run_eqGuard_agg _ _ _ _ _ _ _ hg, Result.andThen_ok, run_neq_struct, hrun]
          simp
        | false =>
          simp only [binSem, Bool.false_eq_true, if_false, Sem.run_bind, run_eqGuard_agg _ _ _ _ _ _ _ hg, Result.andThen_ok, run_eql_struct, hrun]
          simp
    · have e1 : b2Eq P c t neg = ⟨fun x y K => ifO (eqAt d c x y) (fun r => frcB (Bool.xor neg r) fun r => K (.bool r)) false⟩ := by
        simp only [b2Eq, hu, B2.f, undF_eq, infoF_eq, funF_eq]
        cases d <;> first | rfl | exact absurd ⟨_, rfl⟩ hst
      rw [e1]
      intro u v K hb sy e u' v' hru hrv
      obtain ⟨r, h1, h2⟩ := ifO_yes hb
      rw [frcB_eq] at h2
      refine ⟨_, _, h2, .bool _, fun W x y hc => ?_⟩
      have := eqAt_run hu h1 hru hrv (xo := x) (yo := y) hc W
      subst hop
      cases neg with
      | true => simpa using this.2
      | false => simpa using this.1
theorem b2_all (t : TypeId) (c : Bool) : ∀ op : BinOp, B2Ok P op t c (cBin P c t op)
  | .add => b2_add
  | .sub => b2_sub
  | .mul => b2_mul
  | .quo => b2_quo
  | .rem => b2_rem
  | .and => b2_and
  | .or => b2_or
  | .xor => b2_xor
  | .andNot => b2_andNot
  | .shl => b2_shl
  | .shr => b2_shr
  | .eql => b2_eq rfl
  | .neq => b2_eq rfl
  | .lss => b2_lss
  | .leq => b2_leq
  | .gtr => b2_gtr
  | .geq => b2_geq
end

section
variable {sy : Nat → Value} {N0 : Par} {W0 : World} {P : Program} {G : Nat}
theorem op_binOp (op : BinOp) (t : TypeId) (x y : Operand) (yt : TypeId) : OpOk P sy N0 W0 G (cOp P G (.binOp op t x y yt)) (.binOp op t x y yt) := by
  simp only [cOp, BX.f, undF_eq, infoF_eq, funF_eq]
  refine xP_ok ?_
  intro a K h e act hG hops
  obtain ⟨v, h1, h2⟩ := cOpd_ok hG hops (x := x) (by simp [Op.operands]) h
  obtain ⟨w, h3, h4⟩ := cOpd_ok hG hops (x := y) (by simp [Op.operands]) h1
  obtain ⟨r, r', h5, h6, h7⟩ := b2_all t _ op v w K h3 sy e _ _ h2 h4
  refine ⟨r, r', h5, h6, fun o W ho => ?_⟩
  have := h7 W x y id
  simp only [binSem] at this
  simp only [execOp, ho, Sem.run_bind] at this ⊢
  rw [this]; simp
theorem op_neg (t : TypeId) (x : Operand) : OpOk P sy N0 W0 G (cOp P G (.unOp .neg t x)) (.unOp .neg t x) := by
  simp only [cOp, BX.f, undF_eq, infoF_eq, funF_eq]
  refine xP_ok ?_
  intro a K h e act hG hops
  obtain ⟨v, h1, h2⟩ := cOpd_ok hG hops (x := x) (by simp [Op.operands]) h
  obtain ⟨k, n, rfl, h3⟩ := asInt_yes h1
  rw [wrapK_eq] at h3
  generalize hc : act.eval x = cv at h2
  cases h2
  refine ⟨_, _, h3, .int _ _, fun o W ho => ?_⟩
  simp only [execOp, ho, hc, Op.unary, Op.intArith]
  rfl
theorem op_not (t : TypeId) (x : Operand) : OpOk P sy N0 W0 G (cOp P G (.unOp .not t x)) (.unOp .not t x) := by
  simp only [cOp, BX.f, undF_eq, infoF_eq, funF_eq]
  refine xP_ok ?_
  intro a K h e act hG hops
  obtain ⟨v, h1, h2⟩ := cOpd_ok hG hops (x := x) (by simp [Op.operands]) h
  obtain ⟨b, rfl, h3⟩ := asBool_yes h1
  rw [frcB_eq] at h3
  generalize hc : act.eval x = cv at h2
  cases h2
  exact ⟨_, _, h3, .bool _, fun o W ho => by simp [execOp, ho, hc, Op.unary]⟩
theorem cPart_ok {t : TypeId} {off : Nat} {l : AV} {K : AV → Bool} {e : Env} {vs : List Value} (h : (cPart P t off).f l K = true) (hl : RL sy e l vs) : ∃ x v, K x = true ∧ RV sy e x v ∧ ∀ W, (part t vs.toArray off).run P W = .ok v W := by
  cases ha : isAgg P t with
  | none => simp only [cPart, ha, B1.f, undF_eq, infoF_eq, funF_eq] at h; cases h
  | some b =>
    cases hs : sizeAt P t with
    | none => cases b <;> simp only [cPart, ha, hs, B1.f, undF_eq, infoF_eq, funF_eq] at h <;> cases h
    | some s =>
      cases b with
      | true =>
        simp only [cPart, ha, hs, B1.f, undF_eq, infoF_eq, funF_eq] at h
        obtain ⟨l1, h1, h2⟩ := hl.get off h
        obtain ⟨l2, h3, h4, _⟩ := h2.part s h1
        refine ⟨_, _, h3, .agg h4, fun W => ?_⟩
        simp [part, isAgg_run ha, sizeAt_run hs]
      | false =>
        simp only [cPart, ha, hs, B1.f, undF_eq, infoF_eq, funF_eq] at h
        obtain ⟨l1, h1, h2⟩ := hl.get off h
        obtain ⟨x, l2, rfl, h3⟩ := asCons_yes h1
        generalize hd : List.drop off vs = ds at h2
        cases h2 with
        | cons hx hl' =>
          rename_i v' vs'
          have hi : vs[off]? = some v' := by rw [← List.head?_drop, hd]; rfl
          exact ⟨x, v', h3, hx, fun W => by simp [part, isAgg_run ha, hi]⟩
theorem op_field (t : TypeId) (x : Operand) (i : Nat) : OpOk P sy N0 W0 G (cOp P G (.field t x i)) (.field t x i) := by
  cases hu : P.underlying t with
  | none => simp only [cOp, hu, BX.f, undF_eq, infoF_eq, funF_eq]; exact xNo_ok
  | some d =>
    by_cases hst : ∃ fs, d = .struct fs
    · obtain ⟨fs, rfl⟩ := hst
      cases hf : fs.toList[i]? with
      | none => simp only [cOp, hu, hf, BX.f, undF_eq, infoF_eq, funF_eq]; exact xNo_ok
      | some f =>
        simp only [cOp, hu, hf, BX.f, undF_eq, infoF_eq, funF_eq]
        refine xP_ok ?_
        intro a K h e act hG hops
        obtain ⟨v, h1, h2⟩ := cOpd_ok hG hops (x := x) (by simp [Op.operands]) h
        obtain ⟨l, rfl, h3⟩ := asAgg_yes h1
        generalize hc : act.eval x = cv at h2
        cases h2 with
        | agg hl =>
          obtain ⟨y, v, h4, h5, h6⟩ := cPart_ok h3 hl
          have hf' : fs[i]? = some f := by simpa using hf
          exact ⟨y, v, h4, h5, fun o W ho => by simp [execOp, ho, hc, Instr.field, run_underlying hu, hf', asAgg, Go.asAgg, h6]⟩
    · have e1 : cOp P G (.field t x i) = xNo := by
        simp only [cOp, hu, BX.f, undF_eq, infoF_eq, funF_eq]
        cases d <;> first | rfl | exact absurd ⟨_, rfl⟩ hst
      rw [e1]; exact xNo_ok
theorem op_fieldAddr (t : TypeId) (x : Operand) (i : Nat) : OpOk P sy N0 W0 G (cOp P G (.fieldAddr t x i)) (.fieldAddr t x i) := by
  cases hu : P.underlying t with
  | none => simp only [cOp, hu, BX.f, undF_eq, infoF_eq, funF_eq]; exact xNo_ok
  | some d =>
    by_cases hst : ∃ fs, d = .struct fs
    · obtain ⟨fs, rfl⟩ := hst
      cases hf : fs.toList[i]? with
      | none => simp only [cOp, hu, hf, BX.f, undF_eq, infoF_eq, funF_eq]; exact xNo_ok
      | some f =>
        cases hs : sizeAt P f.type with
        | none => simp only [cOp, hu, hf, hs, BX.f, undF_eq, infoF_eq, funF_eq]; exact xNo_ok
        | some s =>
        cases s with
        | zero => simp only [cOp, hu, hf, hs, BX.f, undF_eq, infoF_eq, funF_eq]; exact xNo_ok
        | succ s =>
        simp only [cOp, hu, hf, hs, BX.f, undF_eq, infoF_eq, funF_eq]
        refine xP_ok ?_
        intro a K h e act hG hops
        obtain ⟨v, h1, h2⟩ := cOpd_ok hG hops (x := x) (by simp [Op.operands]) h
        obtain ⟨p, o, rfl, h3⟩ := asRef_yes h1
        rw [frcN_eq] at h3
        generalize hc : act.eval x = cv at h2
        cases h2 with
        | ref hp =>
          have hf' : fs[i]? = some f := by simpa using hf
          refine ⟨_, _, h3, .ref hp, fun o W ho => ?_⟩
          simp [execOp, ho, hc, Instr.fieldAt, run_underlying hu, hf', Instr.sureAddr, fieldPlace, sizeAt_run hs, Addr.add_lit, Nat.add_assoc]
    · have e1 : cOp P G (.fieldAddr t x i) = xNo := by
        simp only [cOp, hu, BX.f, undF_eq, infoF_eq, funF_eq]
        cases d <;> first | rfl | exact absurd ⟨_, rfl⟩ hst
      rw [e1]; exact xNo_ok
end
end Go.Proofs.YtdoddlkppkegnaaGreatDoor.Ev
