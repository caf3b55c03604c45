/- The evaluator runs functions as the model does: functions that were put off, recover, calls. No conditions. -/
import Derived.Test.YtdoddlkppkegnaaGreatDoorEvG
namespace Go.Proofs.YtdoddlkppkegnaaGreatDoor.Ev
open Go Go.RowKit
set_option linter.unusedSimpArgs false
set_option linter.unusedVariables false
section
variable {sy : Nat → Value} {N0 : Par} {W0 : World} {P : Program} {G : Nat}
inductive RC (sy : Nat → Value) (e : Env) : List (AV × Bool) → List PanicEntry → Prop
  | nil : RC sy e [] []
  | cons {v : AV} {v' : Value} {b : Bool} {l : List (AV × Bool)} {es : List PanicEntry} (hv : RV sy e v v') (h : RC sy e l es) : RC sy e ((v, b) :: l) ({ v := v', recovered := b, goexit := false } :: es)
inductive RMode (sy : Nat → Value) (e : Env) : AM → FrameMode → Prop
  | returning : RMode sy e none .returning
  | panicking {l : List (AV × Bool)} {es : List PanicEntry} (h : RC sy e l es) : RMode sy e (some l) (.panicking es)
theorem RC.mono {e e' : Env} (he : e.le e') : ∀ {l : List (AV × Bool)} {es : List PanicEntry}, RC sy e l es → RC sy e' l es
  | _, _, .nil => .nil
  | _, _, .cons hv h => .cons (hv.mono he) (RC.mono he h)
theorem RMode.mono {e e' : Env} (he : e.le e') {u : AM} {um : FrameMode} (h : RMode sy e u um) : RMode sy e' u um := by
  cases h with
  | returning => exact .returning
  | panicking h => exact .panicking (h.mono he)
/-- What a stretch of a function that was put off leaves. -/
structure EndsS (sy : Nat → Value) (N0 : Par) (W0 : World) (e : Env) (nt : Nat) (C : T AV → List Dfr → M → Nat → AM → Bool) (c0 : Frame) (cs : List Frame) (act : Act) (cs' : List Frame) (W : World) : Prop where
  is : ∃ e' a ds m nx u um, e.le e' ∧ St sy N0 W0 e' m nx W ∧ Frm sy e' nt a act.tmps ∧ RD sy e' ds act.defers ∧ RMode sy e' u um ∧ cs' = { c0 with mode := um } :: cs ∧ C a ds m nx u = true
def PostS (sy : Nat → Value) (N0 : Par) (W0 : World) (e : Env) (nt : Nat) (N : KM) (X : KY) (c0 : Frame) (cs : List Frame) : Exit → Act → List Frame → World → Prop
  | .normal, act, cs', W => EndsS sy N0 W0 e nt N c0 cs act cs' W
  | .exit id, act, cs', W => EndsS sy N0 W0 e nt (X (.exit id)) c0 cs act cs' W
  | .goto l, act, cs', W => EndsS sy N0 W0 e nt (X (.goto l)) c0 cs act cs' W
  | .ret, act, cs', W => EndsS sy N0 W0 e nt (X .ret) c0 cs act cs' W
  | .panic chain, act, cs', W => ∃ c, EndsS sy N0 W0 e nt (X (.pan c)) c0 cs act cs' W
  | .outgrown, _, _, _ => False
theorem EndsS.le {e e' : Env} {nt : Nat} {C : T AV → List Dfr → M → Nat → AM → Bool} {c0 : Frame} {cs : List Frame} {act : Act} {cs' : List Frame} {W : World} (h : EndsS sy N0 W0 e' nt C c0 cs act cs' W) (he : e.le e') : EndsS sy N0 W0 e nt C c0 cs act cs' W := by
  obtain ⟨e1, a, ds, m, nx, u, um, h1, h2⟩ := h.is
  exact ⟨e1, a, ds, m, nx, u, um, Env.le_trans he h1, h2⟩
theorem PostS.le {e e' : Env} {nt : Nat} {N : KM} {X : KY} {c0 : Frame} {cs : List Frame} {x : Exit} {act : Act} {cs' : List Frame} {W : World} (h : PostS sy N0 W0 e' nt N X c0 cs x act cs' W) (he : e.le e') : PostS sy N0 W0 e nt N X c0 cs x act cs' W := by
  cases x with
  | normal => exact EndsS.le h he
  | exit id => exact EndsS.le h he
  | goto l => exact EndsS.le h he
  | ret => exact EndsS.le h he
  | panic ch =>
    obtain ⟨c, h⟩ := h
    exact ⟨c, h.le he⟩
  | outgrown => exact h
def RecOk (P : Program) (sy : Nat → Value) (N0 : Par) (W0 : World) (G nt : Nat) (b : BD) (c : Code) : Prop :=
  ∀ call, (∀ N0 W0, CallOk P sy N0 W0 G call) → ∀ L a ds m nx u N X, b.f call L a ds m nx u N X = true → ∀ e act W, GlobOk G e → St sy N0 W0 e m nx W → Frm sy e nt a act.tmps → RD sy e ds act.defers → ∀ um, RMode sy e u um → ∀ c0 cs,
    c.wpS P (PostS sy N0 W0 e nt N X c0 cs) act ({ c0 with mode := um } :: cs) W
/-- Code that recovers nothing. -/
theorem plain_ok {nt : Nat} {b : BC} {c : Code} (hb : CodeOk P sy N0 W0 G nt b c) : RecOk P sy N0 W0 G nt ⟨fun call L a ds m nx u KM KY => b.f call L a ds m nx (fun a ds m nx => KM a ds m nx u) (fun e a ds m nx => KY e a ds m nx u)⟩ c := by
  intro call hcall L a ds m nx u N X h e act W hG hst hf hd um hu c0 cs
  refine wpS_of_wp (wp_mono (hb call hcall L a ds m nx _ _ h e act W hG hst hf hd) fun x act' W' hP => ?_)
  have conv : ∀ {C : T AV → List Dfr → M → Nat → AM → Bool}, Ends sy N0 W0 e nt (fun a ds m nx => C a ds m nx u) act' W' → EndsS sy N0 W0 e nt C c0 cs act' ({ c0 with mode := um } :: cs) W' := fun {C} hE => by
    obtain ⟨e', a', ds', m', nx', he, h1, h2, h3, h4⟩ := hE.is
    exact ⟨e', a', ds', m', nx', u, um, he, h1, h2, h3, hu.mono he, rfl, h4⟩
  cases x with
  | normal => exact conv hP
  | exit id => exact conv (C := X (.exit id)) hP
  | goto l => exact conv (C := X (.goto l)) hP
  | ret => exact conv (C := X .ret) hP
  | panic ch =>
    obtain ⟨e', c, cs', a', ds', m', nx', he, h1, h2, h3, _, _, h4⟩ := hP
    exact ⟨c, e', a', ds', m', nx', u, um, he, h1, h2, h3, hu.mono he, rfl, h4⟩
  | outgrown => exact hP
theorem run_recover {o : Oper} {act : Act} {W : World} (h : isRec o.op = true) : (execOp act.eval o).run P W = .ok .recover W := by
  cases hop : o.op <;> rw [hop] at h <;> first | (cases h; done) | skip
  rename_i c
  obtain ⟨cal, args, ts⟩ := c
  cases cal with
  | builtin b =>
    cases b <;> first | (cases h; done) | skip
    simp [execOp, hop, resolve, invoke, builtin]
  | _ => cases h
theorem recAM_ok {e : Env} {u : AM} {um : FrameMode} {K : AV → AM → Bool} (h : recAM u K = true) (hu : RMode sy e u um) (c0 : Frame) (cs : List Frame) :
    (∃ v v' u' um', recoverD ({ c0 with mode := um } :: cs) = some (v', { c0 with mode := um' } :: cs) ∧ RV sy e v v' ∧ RMode sy e u' um' ∧ K v u' = true) ∨ (recoverD ({ c0 with mode := um } :: cs) = none ∧ K (.nil .i) u = true) := by
  cases hu with
  | returning => exact .inr ⟨rfl, h⟩
  | panicking hc =>
    cases hc with
    | nil => exact .inr ⟨rfl, h⟩
    | cons hv hr =>
      rename_i v v' b l es
      cases b with
      | true => exact .inr ⟨rfl, h⟩
      | false => exact .inl ⟨v, v', _, _, rfl, hv, .panicking (.cons hv hr), h⟩
theorem cRecOps_ok (nt : Nat) (ops : Array Oper) {call : CallK} (hcall : ∀ N0 W0, CallOk P sy N0 W0 G call) (L : Nat) : ∀ (l : List Oper) (k : Nat), l = ops.toList.drop k → ∀ (a : T AV) (ds : List Dfr) (m : M) (nx : Nat) (u : AM) (N : KM) (X : KY), (cRecOps P G nt ops l).f call L a ds m nx u N X = true → ∀ (e : Env) (act : Act) (W : World), GlobOk G e → St sy N0 W0 e m nx W → Frm sy e nt a act.tmps → RD sy e ds act.defers →
    ∀ um, RMode sy e u um → ∀ (c0 : Frame) (cs : List Frame) (e0 : Env), e0.le e → wpOpsS P ops (PostS sy N0 W0 e0 nt N X c0 cs) (List.range' k (ops.size - k)) act ({ c0 with mode := um } :: cs) W
  | [], k, hl, a, ds, m, nx, u, N, X, h, e, act, W, hG, hst, hf, hd, um, hu, c0, cs, e0, he0 => by
    have : ops.size - k = 0 := by
      have := congrArg List.length hl
      simp at this; omega
    rw [this]
    exact ⟨e, a, ds, m, nx, u, um, he0, hst, hf, hd, hu, rfl, h⟩
  | o :: l, k, hl, a, ds, m, nx, u, N, X, h, e, act, W, hG, hst, hf, hd, um, hu, c0, cs, e0, he0 => by
    have hk : k < ops.size := by
      have := congrArg List.length hl
      simp at this; omega
    have ho : ops[k]? = some o := by
      rw [← Array.getElem?_toList, ← List.head?_drop, ← hl]; rfl
    have hl' : l = ops.toList.drop (k + 1) := by
      rw [← List.tail_drop, ← hl]; rfl
    have e1 : ops.size - k = (ops.size - (k + 1)) + 1 := by omega
    rw [e1, List.range'_succ]
    unfold wpOpsS
    rw [ho]
    simp only
    cases hr : (isRec o.op && o.guard.isNone) with
    | true =>
      simp only [cRecOps, hr, BD.f] at h
      simp only [Bool.and_eq_true] at hr
      have hg : o.guard = none := by cases hq : o.guard with
        | none => rfl
        | some x => rw [hq] at hr; simp at hr
      have hw : Region.wanted o (yielded ops act.tmps) = true := by simp [Region.wanted, hg]
      rw [if_pos hw, run_recover hr.1]
      simp only
      rcases recAM_ok h hu c0 cs with ⟨v, v', u', um', h1, h2, h3, h4⟩ | ⟨h1, h4⟩
      · rw [h1]
        obtain ⟨a', h5, h6⟩ := cPut_ok (act := act) h4 hf h2
        exact cRecOps_ok nt ops hcall L l (k + 1) hl' a' ds m nx u' N X h5 e _ W hG hst h6 (by rw [put_defers]; exact hd) um' h3 c0 cs e0 he0
      · rw [h1]
        obtain ⟨a', h5, h6⟩ := cPut_ok (act := act) (v' := .nilIface) h4 hf .nili
        exact cRecOps_ok nt ops hcall L l (k + 1) hl' a' ds m nx u N X h5 e _ W hG hst h6 (by rw [put_defers]; exact hd) um hu c0 cs e0 he0
    | false =>
      simp only [cRecOps, hr, BD.f] at h
      have hone := cOne_ok nt ops o call hcall L a ds m nx _ _ h e act W hG hst hf hd (fun act' W' => wpOpsS P ops (PostS sy N0 W0 e0 nt N X c0 cs) (List.range' (k + 1) (ops.size - (k + 1))) act' ({ c0 with mode := um } :: cs) W')
        (fun x act' W' => PostS sy N0 W0 e0 nt N X c0 cs x act' ({ c0 with mode := um } :: cs) W')
        (fun act' W' hE => by
          obtain ⟨e', a', ds', m', nx', he, hst', hf', hd', hC⟩ := hE.is
          exact cRecOps_ok nt ops hcall L l (k + 1) hl' a' ds' m' nx' u N X hC e' act' W' (hG.mono he) hst' hf' hd' um (hu.mono he) c0 cs e0 (Env.le_trans he0 he))
        (fun chain act' W' hP => by
          obtain ⟨e', c, cs', a', ds', m', nx', he, h1, h2, h3, _, _, h4⟩ := hP
          exact ⟨c, e', a', ds', m', nx', u, um, Env.le_trans he0 he, h1, h2, h3, hu.mono he, rfl, h4⟩)
      split
      · rename_i hw
        rw [if_pos hw] at hone
        unfold Oper.wp at hone
        split
        · rename_i w' hrec
          rw [hrec] at hone
          exact hone.elim
        · exact hone
      · rename_i hw
        rw [if_neg hw] at hone
        exact hone
theorem cRec_ok (hD : ∀ nt id ops, CodeOk P sy N0 W0 G nt (cDraw P G nt ops) (.region id ops true)) (nt : Nat) : ∀ c : Code, RecOk P sy N0 W0 G nt (cRec P G nt c) c
  | .seq x y => by
    cases hr : hasRec (.seq x y) with
    | false =>
      have e1 : cRec P G nt (.seq x y) = ⟨fun call L a ds m nx u KM KY => (cCode P G nt (.seq x y)).f call L a ds m nx (fun a ds m nx => KM a ds m nx u) (fun e a ds m nx => KY e a ds m nx u)⟩ := by simp only [cRec, hr, BD.f]
      rw [e1]
      exact plain_ok (cCode_ok hD nt _)
    | true =>
      have e1 : cRec P G nt (.seq x y) = ⟨fun call L a ds m nx u KM KY => (cRec P G nt x).f call L a ds m nx u (fun a ds m nx u => (cRec P G nt y).f call L a ds m nx u KM KY) KY⟩ := by simp only [cRec, hr, BD.f]
      rw [e1]
      intro call hcall L a ds m nx u N X h e act W hG hst hf hd um hu c0 cs
      refine wpS_seq ?_
      have h1 := cRec_ok hD nt x call hcall L a ds m nx u _ X h e act W hG hst hf hd um hu c0 cs
      intro fr k hb hro
      obtain ⟨x', act', cs', W', hP, harr⟩ := h1 fr k hb hro
      refine ⟨x', act', cs', W', ?_, harr⟩
      cases x' with
      | normal =>
        obtain ⟨e', a', ds', m', nx', u', um', he, hst', hf', hd', hu', rfl, hC⟩ := hP.is
        have h2 := cRec_ok hD nt y call hcall L a' ds' m' nx' u' N X hC e' act' W' (hG.mono he) hst' hf' hd' um' hu' c0 cs
        intro fr k hb hro
        obtain ⟨x2, act2, cs2, W2, hP2, harr2⟩ := h2 fr k hb hro
        exact ⟨x2, act2, cs2, W2, hP2.le he, harr2⟩
      | exit id => exact hP
      | goto l => exact hP
      | ret => exact hP
      | panic ch => exact hP
      | outgrown => exact hP
  | .region id ops false => by
    cases hr : hasRec (.region id ops false) with
    | false =>
      have e1 : cRec P G nt (.region id ops false) = ⟨fun call L a ds m nx u KM KY => (cCode P G nt (.region id ops false)).f call L a ds m nx (fun a ds m nx => KM a ds m nx u) (fun e a ds m nx => KY e a ds m nx u)⟩ := by simp only [cRec, hr, BD.f]
      rw [e1]
      exact plain_ok (cCode_ok hD nt _)
    | true =>
      have e1 : cRec P G nt (.region id ops false) = cRecOps P G nt ops ops.toList := by simp only [cRec, hr, BD.f]
      rw [e1]
      intro call hcall L a ds m nx u N X h e act W hG hst hf hd um hu c0 cs
      refine wpS_region ?_
      rw [List.range_eq_range']
      exact cRecOps_ok nt ops hcall L ops.toList 0 rfl a ds m nx u N X h e act W hG hst hf hd um hu c0 cs e (Env.le_refl e)
  | .region id ops true => plain_ok (cCode_ok hD nt _)
  | .skip => plain_ok (cCode_ok hD nt (.skip))
  | .label a => plain_ok (cCode_ok hD nt (.label a))
  | .cond a b c => plain_ok (cCode_ok hD nt (.cond a b c))
  | .block a b => plain_ok (cCode_ok hD nt (.block a b))
  | .loop a => plain_ok (cCode_ok hD nt (.loop a))
  | .exit a => plain_ok (cCode_ok hD nt (.exit a))
  | .goto a => plain_ok (cCode_ok hD nt (.goto a))
  | .ret => plain_ok (cCode_ok hD nt (.ret))
  | .rangeFunc a b c d => plain_ok (cCode_ok hD nt (.rangeFunc a b c d))
  | .scope a => plain_ok (cCode_ok hD nt (.scope a))
  | .refuse a => plain_ok (cCode_ok hD nt (.refuse a))
theorem noDs_yes {ds : List Dfr} {K : Bool} (h : noDs ds K = true) : ds = [] ∧ K = true := by
  cases ds with
  | nil => exact ⟨rfl, h⟩
  | cons d ds => cases h
theorem invoke_enter {f : FuncId} {fn : Func} {args : Array Value} {W : World} (hf : P.funcs[f]? = some fn) {b : Code} (hb : fn.body = some b) (hn : (fn.name == "runtime.NumGoroutine") = false) : (callFunc f args).run P W = .ok (.enter f args) W := by
  have h0 : ¬ fn.name = "runtime.NumGoroutine" := by simpa using hn
  simp [callFunc, hf, h0, hb]
/-- A function that was put off. -/
theorem cDfr_ok (hD : ∀ nt id ops, CodeOk P sy N0 W0 G nt (cDraw P G nt ops) (.region id ops true)) {f : FuncId} {call : CallK} (hcall : ∀ N0 W0, CallOk P sy N0 W0 G call) {L : Nat} {l : AV} {m : M} {nx : Nat} {u : AM} {K : M → Nat → AM → Bool} (h : (cDfr P G f).f call L l m nx u K = true)
    {e : Env} {args : List Value} {W : World} (hG : GlobOk G e) (hst : St sy N0 W0 e m nx W) (hl : RL sy e l args) {um : FrameMode} (hu : RMode sy e u um) :
    (callFunc f args.toArray).run P W = .ok (.enter f args.toArray) W ∧ CallsD P f args.toArray um W fun en u' W' => (∃ v, en = .returned v) ∧ ∃ e' m' nx' ua, e.le e' ∧ St sy N0 W0 e' m' nx' W' ∧ RMode sy e' ua u' ∧ K m' nx' ua = true := by
  cases hf : P.funcs[f]? with
  | none => simp only [cDfr, hf, BG.f, undF_eq, infoF_eq, funF_eq] at h; cases h
  | some g =>
    cases hb : g.body with
    | none => simp only [cDfr, hf, hb, BG.f, undF_eq, infoF_eq, funF_eq] at h; cases h
    | some b =>
      cases hn : (Nat.ble g.ntmps top && !(g.name == "runtime.NumGoroutine")) with
      | false => simp only [cDfr, hf, hb, hn, BG.f, undF_eq, infoF_eq, funF_eq] at h; cases h
      | true =>
        simp only [cDfr, hf, hb, hn, BG.f, undF_eq, infoF_eq, funF_eq] at h
        simp only [Bool.and_eq_true, Bool.not_eq_true'] at hn
        obtain ⟨h1, h2⟩ := ifB_yes h
        have hlen : args.length ≤ g.ntmps := by
          have := ble_iff.1 h1
          rw [hl.cntA] at this
          exact this
        refine ⟨invoke_enter hf hb hn.2, callsD_of_wpS hf hb fun c0 cs hc0 => ?_⟩
        obtain ⟨a, h3, hfr⟩ := enter_ok h2 hl hlen (ble_iff.1 hn.1)
        have hw := cRec_ok hD g.ntmps b call hcall L a [] m nx u _ _ h3 e { tmps := args.toArray ++ Array.replicate (g.ntmps - args.toArray.size) undef, defers := [] } W hG hst hfr .nil um hu c0 cs
        have hc0' : ({ c0 with mode := um } : Frame) = c0 := by subst hc0; rfl
        rw [hc0'] at hw
        intro fr k hk hro
        obtain ⟨x, act', cs', W', hP, harr⟩ := hw fr k hk hro
        refine ⟨x, act', cs', W', ?_, harr⟩
        have out : ∀ {C : T AV → List Dfr → M → Nat → AM → Bool}, (∀ a ds m nx u, C a ds m nx u = true → noDs ds ((cRes P g.results.toList).f a m fun _ => K m nx u) = true) → EndsS sy N0 W0 e g.ntmps C c0 cs act' cs' W' →
            act'.defers = [] ∧ ∃ u', cs' = { c0 with mode := u' } :: cs ∧ ∃ v, (results g act'.tmps).run P W' = .ok v W' ∧ ((∃ v', Ending.returned v = .returned v') ∧ ∃ e' m' nx' ua, e.le e' ∧ St sy N0 W0 e' m' nx' W' ∧ RMode sy e' ua u' ∧ K m' nx' ua = true) := fun {C} hC hE => by
          obtain ⟨e', a', ds', m', nx', u', um', he, hst', hf', hd', hu', rfl, h4⟩ := hE.is
          obtain ⟨rfl, h5⟩ := noDs_yes (hC _ _ _ _ _ h4)
          obtain ⟨v, v', h6, h7, h8⟩ := cRes_ok h5 hf' hst'
          refine ⟨?_, um', rfl, v', h8, ⟨v', rfl⟩, e', m', nx', u', he, hst', hu', h6⟩
          generalize hq : act'.defers = q at hd'
          cases hd'
          rfl
        cases x with
        | normal => exact out (fun _ _ _ _ _ h => h) hP
        | ret => exact out (C := fun a ds m nx u => noDs ds ((cRes P g.results.toList).f a m fun _ => K m nx u)) (fun _ _ _ _ _ h => h) hP
        | exit id => obtain ⟨e', a', ds', m', nx', u', um', _, _, _, _, _, _, h4⟩ := hP.is; cases h4
        | goto id => obtain ⟨e', a', ds', m', nx', u', um', _, _, _, _, _, _, h4⟩ := hP.is; cases h4
        | panic ch =>
          obtain ⟨c, hP⟩ := hP
          obtain ⟨e', a', ds', m', nx', u', um', _, _, _, _, _, _, h4⟩ := hP.is
          cases h4
        | outgrown => exact hP.elim
end
end Go.Proofs.YtdoddlkppkegnaaGreatDoor.Ev
