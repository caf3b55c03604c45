/- A call that the evaluator answers is answered so by the model. Conditions: what is not walked into answers as the table of such functions says; regions that draw their order are run soundly. -/
import Derived.Test.YtdoddlkppkegnaaGreatDoorEvH
namespace Go.Proofs.YtdoddlkppkegnaaGreatDoor.Ev
open Go Go.RowKit
set_option linter.unusedSimpArgs false
set_option linter.unusedVariables false
section
variable {sy : Nat → Value} {N0 : Par} {W0 : World} {P : Program} {G : Nat}
theorem RC.plain {e : Env} : ∀ {l : List (AV × Bool)} {es : List PanicEntry}, RC sy e l es → es.dropWhile (!·.goexit) = []
  | _, _, .nil => rfl
  | _, _, .cons hv h => by simp [List.dropWhile, RC.plain h]
theorem settle_ok {e : Env} {u : AM} {um : FrameMode} (h : RMode sy e u um) : RMode sy e (settleA u) (settle um) := by
  cases h with
  | returning => exact .returning
  | panicking hc =>
    cases hc with
    | nil => exact .panicking .nil
    | cons hv hr =>
      rename_i v v' b l es
      cases b with
      | true =>
        have : settle (.panicking ({ v := v', recovered := true, goexit := false } :: es)) = .returning := by simp [settle, hr.plain]
        rw [this]; exact .returning
      | false =>
        have e1 : settle (.panicking ({ v := v', recovered := false, goexit := false } :: es)) = .panicking ({ v := v', recovered := false, goexit := false } :: es) := rfl
        have e2 : settleA (some ((v, false) :: l)) = some ((v, false) :: l) := rfl
        rw [e1, e2]
        exact .panicking (.cons hv hr)
theorem unchain_ok {e : Env} : ∀ {l : List (AV × Bool)} {es : List PanicEntry} {c : AV}, unchainA l = some c → RC sy e l es → ∃ cs, es = raw cs ∧ RL sy e c cs := by
  intro l
  induction l with
  | nil =>
    intro es c h hr
    cases hr; cases h
    exact ⟨[], rfl, .eol⟩
  | cons x l ih =>
    intro es c h hr
    cases hr with
    | cons hv hr =>
      rename_i v v' b es
      cases b with
      | true => cases h
      | false =>
        obtain ⟨c', h1, rfl⟩ := Option.map_eq_some_iff.1 (show (unchainA l).map (.cons v) = some c from h)
        obtain ⟨cs, rfl, h2⟩ := ih h1 hr
        exact ⟨_ :: cs, rfl, .cons hv h2⟩
theorem chain_ok {e : Env} : ∀ {c : AV} {cs : List Value}, RL sy e c cs → RC sy e (chainA c) (raw cs)
  | _, _, .eol => .nil
  | _, _, .cons hv hl => .cons hv (chain_ok hl)
/-- What a call hands on. -/
def outR (Y : Value → World → Prop) (Z : List Value → World → Prop) : Ending → World → Prop
  | .returned v, W => Y v W
  | .panicked chain, W => ∃ cs, chain = raw cs ∧ Z cs W
  | .outgrown, _ => False
theorem KOk.le {e e' : Env} {K : KV} {Y : Value → World → Prop} (h : KOk sy N0 W0 e K Y) (he : e.le e') : KOk sy N0 W0 e' K Y := fun e2 v v' m nx W h2 => h e2 v v' m nx W (Env.le_trans he h2)
theorem POk.le {e e' : Env} {K : KV} {Z : List Value → World → Prop} (h : POk sy N0 W0 e K Z) (he : e.le e') : POk sy N0 W0 e' K Z := fun e2 v v' m nx W h2 => h e2 v v' m nx W (Env.le_trans he h2)
theorem leave_ok (hD : ∀ nt id ops, CodeOk P sy N0 W0 G nt (cDraw P G nt ops) (.region id ops true)) {call : CallK} (hcall : ∀ N0 W0, CallOk P sy N0 W0 G call) {L : Nat} {fn : Func} {nt : Nat} {a : T AV} {tmps : Array Value} {KR KP : KV} {Y : Value → World → Prop} {Z : List Value → World → Prop} :
    ∀ (ds : List Dfr) (es : List Deferred) (m : M) (nx : Nat) (u : AM) (um : FrameMode) (W : World) (e : Env), leaveK P G call L (cRes P fn.results.toList) a KR KP ds m nx u = true → GlobOk G e → St sy N0 W0 e m nx W → Frm sy e nt a tmps → RD sy e ds es → RMode sy e u um →
      KOk sy N0 W0 e KR Y → POk sy N0 W0 e KP Z → Leaves P fn tmps (outR Y Z) es um W
  | [], es, m, nx, u, um, W, e, h, hG, hst, hf, hd, hu, hY, hZ => by
    cases hd
    cases hu with
    | returning =>
      obtain ⟨v, v', h1, h2, h3⟩ := cRes_ok h hf hst
      exact ⟨v', h3, hY e v v' m nx W (Env.le_refl e) hst h2 h1⟩
    | panicking hc =>
      rename_i l es'
      obtain ⟨c, h1, h2⟩ := ifO_yes (o := unchainA l) (x := fun c => KP c m nx) h
      obtain ⟨cs, rfl, h3⟩ := unchain_ok h1 hc
      exact ⟨cs, rfl, hZ e c cs m nx W (Env.le_refl e) hst h3 h2⟩
  | d :: ds, es, m, nx, u, um, W, e, h, hG, hst, hf, hd, hu, hY, hZ => by
    cases hd with
    | cons hx hc hds =>
      rename_i xs cs es
      have h' : appA d.args d.captured (fun l => (cDfr P G d.f).f call L l m nx u fun m nx u => leaveK P G call L (cRes P fn.results.toList) a KR KP ds m nx (settleA u)) = true := by
        cases u <;> exact h
      obtain ⟨l, h1, h2⟩ := appA_ok _ _ _ _ hx hc h'
      obtain ⟨h3, h4⟩ := cDfr_ok hD hcall h1 hG hst h2 hu
      refine ⟨(fun hr => by subst hr; cases hu), .func d.f, cs.toArray, d.f, (xs ++ cs).toArray, rfl, ?_, ?_⟩
      · have e1 : invoke (.fn (.func d.f) cs.toArray) xs.toArray = callFunc d.f (xs ++ cs).toArray := by simp [invoke]
        show (invoke (.fn (.func d.f) cs.toArray) xs.toArray).run P W = _
        rw [e1]; exact h3
      · refine CallsD.mono h4 fun en u' W' hh => ?_
        obtain ⟨⟨v, rfl⟩, e', m', nx', ua, he, hst', hu', hK⟩ := hh
        exact leave_ok hD hcall ds es m' nx' (settleA ua) (settle u') W' e' hK (hG.mono he) hst' (hf.mono he) (hds.mono he) (settle_ok hu') (hY.le he) (hZ.le he)
theorem goOut_eq {call : CallK} {L : Nat} {q : BQ} {a : T AV} {KR KP : KV} {ds : List Dfr} {m : M} {nx : Nat} : goOut P G call L q a KR KP ds m nx = leaveK P G call L q a KR KP ds m nx none := by
  cases ds <;> rfl
/-- Functions that are not walked into answer as their table says. -/
def PrimOk (P : Program) (sy : Nat → Value) (G : Nat) (pr : Prims) : Prop :=
  ∀ (N0 : Par) (W0 : World) f g, pr f = some g → ∀ l K m, g.f m l K = true → ∀ e args nx W, GlobOk G e → St sy N0 W0 e m nx W → RL sy e l args →
    ∃ v v', K v = true ∧ RV sy e v v' ∧ ((callFunc f args.toArray).run P W = .ok (.value v') W ∨ ((callFunc f args.toArray).run P W = .ok (.enter f args.toArray) W ∧ Calls P f args.toArray W fun en W' => en = .returned v' ∧ Below W.heap.size W W'))
theorem St.later {e : Env} {m : M} {nx : Nat} {W W' : World} (h : St sy N0 W0 e m nx W) (hb : Below W.heap.size W W') : St sy N0 W0 e m nx W' := by
  refine ⟨⟨fun p B r base sz h1 h2 => ?_, h.rm.inj, h.rm.nm, fun p x hp => Nat.lt_of_lt_of_le (h.rm.lt p x hp) hb.size, h.rm.nb, h.rm.res⟩, h.be.trans (hb.mono h.hN), Nat.le_trans h.hN hb.size⟩
  have hlt : r < W.heap.size := h.rm.lt p _ h2
  exact (h.rm.blk p B r base sz h1 h2).world (fun o => hb.cell (p := ⟨r, o, none⟩) hlt) (fun o => hb.frozen (p := ⟨r, o, none⟩) hlt)
theorem evC_ok (hD : ∀ N0 W0 nt id ops, CodeOk P sy N0 W0 G nt (cDraw P G nt ops) (.region id ops true)) {pr : Prims} (hp : PrimOk P sy G pr) (L : Nat) : ∀ n N0 W0, CallOk P sy N0 W0 G (evC P pr G L n)
  | 0, _, _ => fun _ _ _ _ _ _ h => by cases h
  | n + 1, N0, W0 => by
    have ih := evC_ok hD hp L n
    intro f l m nx K KP h e args W hG0 hst hl Y Z hY hZ
    have hG : GlobOk G e := hG0
    have h' : (cFun P pr G f).f (evC P pr G L n) L l m nx K KP = true := h
    cases hpf : pr f with
    | some g =>
      simp only [cFun, hpf, BF.f, undF_eq, infoF_eq, funF_eq] at h'
      obtain ⟨v, v', h1, h2, h3⟩ := hp N0 W0 f g hpf l _ m h' e args nx W hG hst hl
      rcases h3 with h3 | ⟨h3, h4⟩
      · rw [h3]
        exact hY e v v' m nx W (Env.le_refl e) hst h2 h1
      · rw [h3]
        refine Calls.mono h4 fun en W' hh => ?_
        obtain ⟨rfl, hb⟩ := hh
        exact hY e v v' m nx W' (Env.le_refl e) (hst.later hb) h2 h1
    | none =>
      cases hf : P.funcs[f]? with
      | none => simp only [cFun, hpf, hf, BF.f, undF_eq, infoF_eq, funF_eq] at h'; cases h'
      | some fn =>
        cases hb : fn.body with
        | none => simp only [cFun, hpf, hf, hb, BF.f, undF_eq, infoF_eq, funF_eq] at h'; cases h'
        | some b =>
          cases hn : (Nat.ble fn.ntmps top && !(fn.name == "runtime.NumGoroutine")) with
          | false => simp only [cFun, hpf, hf, hb, hn, BF.f, undF_eq, infoF_eq, funF_eq] at h'; cases h'
          | true =>
            simp only [cFun, hpf, hf, hb, hn, BF.f, undF_eq, infoF_eq, funF_eq] at h'
            simp only [Bool.and_eq_true, Bool.not_eq_true'] at hn
            obtain ⟨h1, h2⟩ := ifB_yes h'
            have hlen : args.length ≤ fn.ntmps := by
              have := ble_iff.1 h1
              rw [hl.cntA] at this
              exact this
            obtain ⟨a, h3, hfr⟩ := enter_ok h2 hl hlen (ble_iff.1 hn.1)
            rw [invoke_enter hf hb hn.2]
            have hw := cCode_ok (hD N0 W0) fn.ntmps b (evC P pr G L n) ih L a [] m nx _ _ h3 e { tmps := args.toArray ++ Array.replicate (fn.ntmps - args.toArray.size) undef, defers := [] } W hG hst hfr .nil
            have hcalls : Calls P f args.toArray W (outR Y Z) := by
              refine calls_of_wp_defers hf hb (wp_mono hw fun x act' W' hP => ?_)
              have out : Ends sy N0 W0 e fn.ntmps (fun a ds m nx => goOut P G (evC P pr G L n) L (cRes P fn.results.toList) a K KP ds m nx) act' W' → Leaves P fn act'.tmps (outR Y Z) act'.defers .returning W' := fun hE => by
                obtain ⟨e', a', ds', m', nx', he, hst', hf', hd', hC⟩ := hE.is
                rw [goOut_eq] at hC
                exact leave_ok (hD N0 W0) ih ds' _ m' nx' none .returning W' e' hC (hG.mono he) hst' hf' hd' .returning (hY.le he) (hZ.le he)
              cases x with
              | normal => exact out hP
              | ret => exact out hP
              | exit id => obtain ⟨e', a', ds', m', nx', _, _, _, _, hC⟩ := hP.is; cases hC
              | goto id => obtain ⟨e', a', ds', m', nx', _, _, _, _, hC⟩ := hP.is; cases hC
              | panic ch =>
                obtain ⟨e', c, cs, a', ds', m', nx', he, hst', hf', hd', rfl, hc, hC⟩ := hP
                generalize hq : act'.defers = q at hd'
                cases ds' with
                | nil =>
                  cases hd'
                  show Leaves P fn act'.tmps (outR Y Z) act'.defers (.panicking (raw cs)) W'
                  rw [hq]
                  exact ⟨cs, rfl, hZ e' c cs m' nx' W' he hst' hc hC⟩
                | cons d ds' =>
                  show Leaves P fn act'.tmps (outR Y Z) act'.defers (.panicking (raw cs)) W'
                  rw [hq]
                  exact leave_ok (hD N0 W0) ih (d :: ds') _ m' nx' (some (chainA c)) (.panicking (raw cs)) W' e' hC (hG.mono he) hst' hf' hd' (.panicking (chain_ok hc)) (hY.le he) (hZ.le he)
              | outgrown => exact hP.elim
            exact Calls.mono hcalls fun en W' hh => by cases en <;> exact hh
end
end Go.Proofs.YtdoddlkppkegnaaGreatDoor.Ev
