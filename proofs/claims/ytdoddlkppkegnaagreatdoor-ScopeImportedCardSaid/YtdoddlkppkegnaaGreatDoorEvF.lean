/- The evaluator runs code as the model does: operations in turn, branches, blocks, loops. No conditions. -/
import Derived.Test.YtdoddlkppkegnaaGreatDoorEvC
import Derived.Defers
namespace Go.Proofs.YtdoddlkppkegnaaGreatDoor.Ev
open Go Go.RowKit
set_option linter.unusedSimpArgs false
set_option linter.unusedVariables false
section
variable {sy : Nat → Value} {N0 : Par} {W0 : World} {P : Program} {G : Nat}
/-- The temporaries. -/
structure Frm (sy : Nat → Value) (e : Env) (nt : Nat) (a : T AV) (tmps : Array Value) : Prop where
  size : tmps.size = nt
  get : ∀ t, t < top → RV sy e (T.get und a t) (tmps.getD t undef)
inductive RD (sy : Nat → Value) (e : Env) : List Dfr → List Deferred → Prop
  | nil : RD sy e [] []
  | cons {d : Dfr} {ds : List Dfr} {xs cs : List Value} {es : List Deferred} (hx : RL sy e d.args xs) (hc : RL sy e d.captured cs) (h : RD sy e ds es) : RD sy e (d :: ds) ({ target := .fn (.func d.f) cs.toArray, args := xs.toArray } :: es)
theorem RD.mono {e e' : Env} (he : e.le e') : ∀ {ds : List Dfr} {es : List Deferred}, RD sy e ds es → RD sy e' ds es
  | _, _, .nil => .nil
  | _, _, .cons hx hc h => .cons (hx.mono he) (hc.mono he) (RD.mono he h)
theorem Frm.mono {e e' : Env} {nt : Nat} {a : T AV} {tmps : Array Value} (h : Frm sy e nt a tmps) (he : e.le e') : Frm sy e' nt a tmps := ⟨h.size, fun t ht => (h.get t ht).mono he⟩
theorem Frm.ops {e : Env} {nt : Nat} {a : T AV} {act : Act} (h : Frm sy e nt a act.tmps) (l : Array Operand) : Ops sy e a act l := fun t _ ht => h.get t ht
theorem cPut_ok {e : Env} {nt : Nat} {a : T AV} {act : Act} {dst : Option Tmp} {v : AV} {v' : Value} {K : T AV → Bool} (h : (cPut nt dst).f a v K = true) (hf : Frm sy e nt a act.tmps) (hv : RV sy e v v') : ∃ a', K a' = true ∧ Frm sy e nt a' (act.put dst v').tmps := by
  cases dst with
  | none => exact ⟨a, h, hf⟩
  | some d =>
    cases hb : (Nat.blt d nt && Nat.blt d top) with
    | false => simp only [cPut, hb, BP.f] at h; cases h
    | true =>
      simp only [cPut, hb, BP.f] at h
      simp only [Bool.and_eq_true] at hb
      have hd := blt_iff.1 hb.1
      have hd' := blt_iff.1 hb.2
      rw [T.setP_eq] at h
      refine ⟨_, h, ⟨by simp [Act.put, hf.size], fun t ht => ?_⟩⟩
      by_cases e1 : t = d
      · subst e1
        rw [T.get_set]
        have : (act.tmps.setIfInBounds t v').getD t undef = v' := by
          rw [Array.getD_eq_getD_getElem?, Array.getElem?_setIfInBounds_self_of_lt (by rw [hf.size]; exact hd)]; rfl
        show RV sy e v ((act.tmps.setIfInBounds t v').getD t undef)
        rw [this]; exact hv
      · have hne : d ≠ t := fun eb => e1 (bitsOf_inj (by unfold top at hd'; omega) (by unfold top at ht; omega) eb).symm
        rw [T.get_set_ne _ _ _ _ _ hne]
        have : (act.tmps.setIfInBounds d v').getD t undef = act.tmps.getD t undef := by
          rw [Array.getD_eq_getD_getElem?, Array.getD_eq_getD_getElem?, Array.getElem?_setIfInBounds_ne (Ne.symm e1)]
        show RV sy e _ ((act.tmps.setIfInBounds d v').getD t undef)
        rw [this]; exact hf.get t ht
theorem put_defers (act : Act) (dst : Option Tmp) (v : Value) : (act.put dst v).defers = act.defers := by cases dst <;> rfl
/-- What a stretch of code leaves. -/
structure Ends (sy : Nat → Value) (N0 : Par) (W0 : World) (e : Env) (nt : Nat) (C : T AV → List Dfr → M → Nat → Bool) (act : Act) (W : World) : Prop where
  is : ∃ e' a ds m nx, e.le e' ∧ St sy N0 W0 e' m nx W ∧ Frm sy e' nt a act.tmps ∧ RD sy e' ds act.defers ∧ C a ds m nx = true
def Post (sy : Nat → Value) (N0 : Par) (W0 : World) (e : Env) (nt : Nat) (N : KN) (X : KX) : Exit → Act → World → Prop
  | .normal, act, W => Ends sy N0 W0 e nt N act W
  | .exit id, act, W => Ends sy N0 W0 e nt (X (.exit id)) act W
  | .goto l, act, W => Ends sy N0 W0 e nt (X (.goto l)) act W
  | .ret, act, W => Ends sy N0 W0 e nt (X .ret) act W
  | .panic chain, act, W => ∃ e' c cs a ds m nx, e.le e' ∧ St sy N0 W0 e' m nx W ∧ Frm sy e' nt a act.tmps ∧ RD sy e' ds act.defers ∧ chain = raw cs ∧ RL sy e' c cs ∧ X (.pan c) a ds m nx = true
  | .outgrown, _, _ => False
theorem Ends.mono {e e' : Env} {nt : Nat} {C C' : T AV → List Dfr → M → Nat → Bool} {act : Act} {W : World} (h : Ends sy N0 W0 e' nt C act W) (he : e.le e') (hC : ∀ a ds m nx, C a ds m nx = true → C' a ds m nx = true) : Ends sy N0 W0 e nt C' act W := by
  obtain ⟨e1, a, ds, m, nx, h1, h2, h3, h4, h5⟩ := h.is
  exact ⟨e1, a, ds, m, nx, Env.le_trans he h1, h2, h3, h4, hC _ _ _ _ h5⟩
theorem Post.mono {e e' : Env} {nt : Nat} {N N' : KN} {X : KX} {x : Exit} {act : Act} {W : World} (h : Post sy N0 W0 e' nt N X x act W) (he : e.le e') (hN : ∀ a ds m nx, N a ds m nx = true → N' a ds m nx = true) : Post sy N0 W0 e nt N' X x act W := by
  cases x with
  | normal => exact Ends.mono h he hN
  | exit id => exact Ends.mono h he fun _ _ _ _ h => h
  | goto l => exact Ends.mono h he fun _ _ _ _ h => h
  | ret => exact Ends.mono h he fun _ _ _ _ h => h
  | panic ch =>
    obtain ⟨e1, c, cs, a, ds, m, nx, h1, h2⟩ := h
    exact ⟨e1, c, cs, a, ds, m, nx, Env.le_trans he h1, h2⟩
  | outgrown => exact h
def GlobOk (G : Nat) (e : Env) : Prop := ∀ g, g < G → ∃ sz, e g = some (g, 0, sz)
theorem GlobOk.mono {e e' : Env} (h : GlobOk G e) (he : e.le e') : GlobOk G e' := fun g hg => let ⟨sz, h1⟩ := h g hg; ⟨sz, he _ _ h1⟩
def CodeOk (P : Program) (sy : Nat → Value) (N0 : Par) (W0 : World) (G nt : Nat) (b : BC) (c : Code) : Prop :=
  ∀ call, (∀ N0 W0, CallOk P sy N0 W0 G call) → ∀ L a ds m nx N X, b.f call L a ds m nx N X = true → ∀ e act W, GlobOk G e → St sy N0 W0 e m nx W → Frm sy e nt a act.tmps → RD sy e ds act.defers → c.wp P (Post sy N0 W0 e nt N X) act W

/-! ### One operation -/
/-- From what an operation does to its law in the model's calculus. -/
theorem upon_wp {o : Oper} {act : Act} {next : Act → World → Prop} {Q : Exit → Act → World → Prop} {r : Result Next} (h : Upon P (fun v W => next (act.put o.dst v) W) (fun cs W => Q (.panic (raw cs)) act W) r) : o.upon P act next Q r := by
  cases r with
  | ok n w =>
    cases n with
    | value v => exact h
    | skip => exact h
    | enter f args =>
      refine Calls.mono h fun en w' hw => ?_
      cases en with
      | returned v => exact hw
      | panicked chain =>
        obtain ⟨cs, rfl, h1⟩ := hw
        exact h1
      | outgrown => exact hw.elim
    | _ => exact h.elim
  | halt x w =>
    cases x with
    | panic v => exact h
    | _ => exact h.elim
def DoOk (P : Program) (sy : Nat → Value) (N0 : Par) (W0 : World) (G nt : Nat) (b : BC) (ops : Array Oper) (o : Oper) : Prop :=
  ∀ call, (∀ N0 W0, CallOk P sy N0 W0 G call) → ∀ L a ds m nx N X, b.f call L a ds m nx N X = true → ∀ e act W, GlobOk G e → St sy N0 W0 e m nx W → Frm sy e nt a act.tmps → RD sy e ds act.defers →
    ∀ (next : Act → World → Prop) (Q : Exit → Act → World → Prop), (∀ act' W', Ends sy N0 W0 e nt N act' W' → next act' W') → (∀ chain act' W', Post sy N0 W0 e nt N X (.panic chain) act' W' → Q (.panic chain) act' W') →
      if Region.wanted o (yielded ops act.tmps) then o.wp P act W next Q else next (act.put o.dst undef) W
theorem cDo_ok (nt : Nat) (o : Oper) {call : CallK} (hcall : ∀ N0 W0, CallOk P sy N0 W0 G call) {L : Nat} {a : T AV} {ds : List Dfr} {m : M} {nx : Nat} {N : KN} {X : KX} (h : (cDo P G nt o).f call L a ds m nx N X = true) {e : Env} {act : Act} {W : World} (hG : GlobOk G e) (hst : St sy N0 W0 e m nx W)
    (hf : Frm sy e nt a act.tmps) (hd : RD sy e ds act.defers) {next : Act → World → Prop} {Q : Exit → Act → World → Prop} (hn : ∀ act' W', Ends sy N0 W0 e nt N act' W' → next act' W') (hq : ∀ chain act' W', Post sy N0 W0 e nt N X (.panic chain) act' W' → Q (.panic chain) act' W') :
    o.wp P act W next Q := by
  have plain : (⟨fun call _ a ds m nx KN KX => (cOp P G o.op).f call a m nx (fun v m nx => (cPut nt o.dst).f a v fun a => KN a ds m nx) (fun c m nx => KX (.pan c) a ds m nx)⟩ : BC).f call L a ds m nx N X = true → o.wp P act W next Q := by
    intro hb
    refine upon_wp ?_
    refine op_ok (P := P) (G := G) (sy := sy) (N0 := N0) (W0 := W0) o.op call hcall a m nx _ _ hb e act W hG hst (hf.ops _) (fun v W => next (act.put o.dst v) W) (fun cs W => Q (.panic (raw cs)) act W) ?_ ?_ o rfl
    · intro e' v v' m' nx' W' he hst' hv hK
      obtain ⟨a', h1, h2⟩ := cPut_ok (act := act) hK (hf.mono he) hv
      exact hn _ _ ⟨e', a', ds, m', nx', he, hst', h2, by rw [put_defers]; exact hd.mono he, h1⟩
    · intro e' c cs m' nx' W' he hst' hc hK
      exact hq _ _ _ ⟨e', c, cs, a, ds, m', nx', he, hst', hf.mono he, hd.mono he, rfl, hc, hK⟩
  by_cases hdef : ∃ x args ts, o.op = .defer { callee := .value x, args, argTypes := ts }
  · obtain ⟨x, args, ts, hop⟩ := hdef
    have hb : (cOpd G x).k a (fun v => asFn v fun f x c => (cOpds G args.toList).k a fun l => appA x l fun args => (cPut nt o.dst).f a und fun a => N a ({ f, args, captured := c } :: ds) m nx) = true := by
      unfold cDo at h
      rw [hop] at h
      exact h
    have hops := hf.ops (Op.defer { callee := .value x, args, argTypes := ts }).operands
    obtain ⟨v, h1, h2⟩ := cOpd_ok hG hops (x := x) (by simp [Op.operands, Call.operands]) hb
    obtain ⟨f, xs, cs, rfl, h3⟩ := asFn_yes h1
    obtain ⟨l, h4, h5⟩ := cOpds_ok hG hops args.toList (by intro y hy; simp [Op.operands, Call.operands]; exact .inr (by simpa using hy)) h3
    generalize hc : act.eval x = cv at h2
    cases h2 with
    | fn hxs hcs =>
      rename_i xv cvs
      obtain ⟨r, h6, h7⟩ := appA_ok _ _ _ _ hxs h5 h4
      obtain ⟨a', h8, h9⟩ := cPut_ok (act := { act with defers := { target := .fn (.func f) cvs.toArray, args := (xv ++ args.toList.map act.eval).toArray } :: act.defers }) h6 hf RV.und
      have hrun : (execOp act.eval o).run P W = .ok (.defer { target := .fn (.func f) cvs.toArray, args := (xv ++ args.toList.map act.eval).toArray }) W := by
        simp [execOp, hop, hc, resolve, Deferred.ofValue]
      unfold Oper.wp
      rw [hrun]
      refine hn _ _ ⟨e, a', _, m, nx, Env.le_refl e, hst, h9, ?_, h8⟩
      rw [put_defers]
      exact .cons h7 hcs hd
  · refine plain ?_
    unfold cDo at h
    split at h
    · rename_i hop
      exact absurd ⟨_, _, _, hop⟩ hdef
    · exact h
def boolOf : Value → Option Bool
  | .bool b => some b
  | _ => none
theorem yielded_eq {ops : Array Oper} {tmps : Array Value} {j d : Nat} (hd : (ops[j]?).bind (·.dst) = some d) : yielded ops tmps j = boolOf (tmps.getD d undef) := by
  unfold yielded
  rw [hd]
  show (match tmps[d]? with | some (.bool b) => some b | _ => none) = _
  rw [Array.getD_eq_getD_getElem?]
  cases tmps[d]? with
  | none => rfl
  | some v => cases v <;> rfl
theorem isIt_ok {e : Env} {w : Bool} {v : AV} {u : Value} {Y N : Bool} (h : isIt w v Y N = true) (hv : RV sy e v u) : (boolOf u = some w ∧ Y = true) ∨ (boolOf u ≠ some w ∧ N = true) := by
  cases v with
  | bool b =>
    cases hv
    cases b <;> cases w <;> first | exact .inl ⟨rfl, h⟩ | exact .inr ⟨(by simp [boolOf]), h⟩
  | sym i => cases h
  | eol => cases h
  | nil k =>
    refine .inr ⟨?_, h⟩
    cases hv <;> simp [boolOf]
  | _ =>
    refine .inr ⟨?_, h⟩
    cases hv <;> simp [boolOf]
theorem cOne_ok (nt : Nat) (ops : Array Oper) (o : Oper) : DoOk P sy N0 W0 G nt (cOne P G nt ops o) ops o := by
  intro call hcall L a ds m nx N X h e act W hG hst hf hd next Q hn hq
  have skip : (cPut nt o.dst).f a und (fun a => N a ds m nx) = true → next (act.put o.dst undef) W := fun hp => by
    obtain ⟨a', h1, h2⟩ := cPut_ok (act := act) hp hf RV.und
    exact hn _ _ ⟨e, a', ds, m, nx, Env.le_refl e, hst, h2, by rw [put_defers]; exact hd, h1⟩
  cases hg : o.guard with
  | none =>
    simp only [cOne, hg, BC.f, undF_eq, infoF_eq, funF_eq] at h
    have hw : Region.wanted o (yielded ops act.tmps) = true := by simp [Region.wanted, hg]
    rw [if_pos hw]
    exact cDo_ok nt o hcall h hG hst hf hd hn hq
  | some jw =>
    obtain ⟨j, w⟩ := jw
    cases hdst : (ops[j]?).bind (·.dst) with
    | none =>
      simp only [cOne, hg, hdst, BC.f, undF_eq, infoF_eq, funF_eq] at h
      have hw : ¬ Region.wanted o (yielded ops act.tmps) = true := by simp [Region.wanted, hg, yielded, hdst]
      rw [if_neg hw]
      exact skip h
    | some d =>
      cases hb : Nat.blt d top with
      | false => simp only [cOne, hg, hdst, hb, BC.f, undF_eq, infoF_eq, funF_eq] at h; cases h
      | true =>
        simp only [cOne, hg, hdst, hb, BC.f, undF_eq, infoF_eq, funF_eq] at h
        rw [T.getP_eq] at h
        have hy := yielded_eq (tmps := act.tmps) hdst
        rcases isIt_ok h (hf.get d (blt_iff.1 hb)) with ⟨h1, h2⟩ | ⟨h1, h2⟩
        · have hw : Region.wanted o (yielded ops act.tmps) = true := by simp only [Region.wanted, hg, hy, h1]; simp
          rw [if_pos hw]
          exact cDo_ok nt o hcall h2 hG hst hf hd hn hq
        · have hw : ¬ Region.wanted o (yielded ops act.tmps) = true := by simp only [Region.wanted, hg, hy]; simpa using h1
          rw [if_neg hw]
          exact skip h2
/-- Operations in turn. -/
theorem cOps_ok (nt : Nat) (ops : Array Oper) {call : CallK} (hcall : ∀ N0 W0, CallOk P sy N0 W0 G call) (L : Nat) : ∀ (l : List Oper) (k : Nat), l = ops.toList.drop k → ∀ (a : T AV) (ds : List Dfr) (m : M) (nx : Nat) (N : KN) (X : KX), (cOps P G nt ops l).f call L a ds m nx N X = true → ∀ (e : Env) (act : Act) (W : World), GlobOk G e → St sy N0 W0 e m nx W → Frm sy e nt a act.tmps → RD sy e ds act.defers →
    ∀ e0 : Env, e0.le e → wpOps P ops (Post sy N0 W0 e0 nt N X) (List.range' k (ops.size - k)) act W
  | [], k, hl, a, ds, m, nx, N, X, h, e, act, W, hG, hst, hf, hd, e0, he0 => by
    have : ops.size - k = 0 := by
      have := congrArg List.length hl
      simp at this; omega
    rw [this]
    exact ⟨e, a, ds, m, nx, he0, hst, hf, hd, h⟩
  | o :: l, k, hl, a, ds, m, nx, N, X, h, e, act, W, hG, hst, hf, hd, e0, he0 => by
    have hk : k < ops.size := by
      have := congrArg List.length hl
      simp at this; omega
    have ho : ops[k]? = some o := by
      rw [← Array.getElem?_toList, ← List.head?_drop, ← hl]; rfl
    have hl' : l = ops.toList.drop (k + 1) := by
      rw [← List.tail_drop, ← hl]; rfl
    have e1 : ops.size - k = (ops.size - (k + 1)) + 1 := by omega
    rw [e1, List.range'_succ]
    have h' : (cOne P G nt ops o).f call L a ds m nx (fun a ds m nx => (cOps P G nt ops l).f call L a ds m nx N X) X = true := h
    have hone := cOne_ok nt ops o call hcall L a ds m nx _ X h' e act W hG hst hf hd (wpOps P ops (Post sy N0 W0 e0 nt N X) (List.range' (k + 1) (ops.size - (k + 1)))) (Post sy N0 W0 e0 nt N X)
      (fun act' W' hE => by
        obtain ⟨e', a', ds', m', nx', he, hst', hf', hd', hC⟩ := hE.is
        exact cOps_ok nt ops hcall L l (k + 1) hl' a' ds' m' nx' N X hC e' act' W' (hG.mono he) hst' hf' hd' e0 (Env.le_trans he0 he))
      (fun chain act' W' hP => by
        obtain ⟨e', c, cs, a', ds', m', nx', he, rest⟩ := hP
        exact ⟨e', c, cs, a', ds', m', nx', Env.le_trans he0 he, rest⟩)
    unfold wpOps
    rw [ho]
    simp only
    split
    · rename_i hw
      rw [if_pos hw] at hone
      exact .inl hone
    · rename_i hw
      rw [if_neg hw] at hone
      exact hone
theorem cRegion_ok (nt id : Nat) (ops : Array Oper) : CodeOk P sy N0 W0 G nt (cOps P G nt ops ops.toList) (.region id ops false) := by
  intro call hcall L a ds m nx N X h e act W hG hst hf hd
  refine wp_region ?_
  rw [List.range_eq_range']
  exact cOps_ok nt ops hcall L ops.toList 0 rfl a ds m nx N X h e act W hG hst hf hd e (Env.le_refl e)
/-- A loop, from its second round on. -/
theorem loop_ok {nt : Nat} {b : BC} {c : Code} (hb : CodeOk P sy N0 W0 G nt b c) {call : CallK} (hcall : ∀ N0 W0, CallOk P sy N0 W0 G call) (L : Nat) (X : KX) (N : KN) : ∀ (n : Nat) (a : T AV) (ds : List Dfr) (m : M) (nx : Nat), loopK b call L X n a ds m nx = true → ∀ (e : Env) (act : Act) (W : World), GlobOk G e → St sy N0 W0 e m nx W → Frm sy e nt a act.tmps → RD sy e ds act.defers →
    ∀ (fr : Frame) (k : List Item) (cs : List Frame), ∃ x act' W', Post sy N0 W0 e nt N X x act' W' ∧ Arrives P (lone (fr.at act (.code c :: .inLoop c :: k)) cs W) fr k cs x act' W'
  | 0, a, ds, m, nx, h => by cases h
  | n + 1, a, ds, m, nx, h => by
    intro e act W hG hst hf hd fr k cs
    have h' : b.f call L a ds m nx (fun a ds m nx => loopK b call L X n a ds m nx) X = true := h
    obtain ⟨x, act1, W1, hP, harr⟩ := hb call hcall L a ds m nx _ X h' e act W hG hst hf hd fr (.inLoop c :: k) cs
    cases x with
    | normal =>
      obtain ⟨e', a', ds', m', nx', he, hst', hf', hd', hC⟩ := hP.is
      obtain ⟨x2, act2, W2, hP2, harr2⟩ := loop_ok hb hcall L X N n a' ds' m' nx' hC e' act1 W1 (hG.mono he) hst' hf' hd' fr k cs
      exact ⟨x2, act2, W2, Post.mono hP2 he (fun _ _ _ _ h => h), .of_steps (Steps.trans harr (.one step_inLoop)) harr2⟩
    | exit id => exact ⟨(.exit id), act1, W1, hP, .pass (x := .inLoop c) rfl (fun _ _ => .inl (by simp)) harr⟩
    | goto l => exact ⟨(.goto l), act1, W1, hP, .pass (x := .inLoop c) rfl (fun _ _ => .inl (by simp)) harr⟩
    | ret => exact ⟨.ret, act1, W1, hP, .pass (x := .inLoop c) rfl (fun _ _ => .inl (by simp)) harr⟩
    | panic ch => exact ⟨(.panic ch), act1, W1, hP, .pass (x := .inLoop c) rfl (fun _ _ => .inl (by simp)) harr⟩
    | outgrown => exact hP.elim
end
end Go.Proofs.YtdoddlkppkegnaaGreatDoor.Ev
