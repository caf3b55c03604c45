/- The evaluator runs functions as the model does: calls, results, functions that were put off, recover. No conditions. -/
import Derived.Test.YtdoddlkppkegnaaGreatDoorEvF
import Derived.Recover
namespace Go.Proofs.YtdoddlkppkegnaaGreatDoor.Ev
open Go Go.RowKit
set_option linter.unusedSimpArgs false
set_option linter.unusedVariables false
section
variable {sy : Nat → Value} {N0 : Par} {W0 : World} {P : Program} {G : Nat}
theorem cNo_ok {nt : Nat} {c : Code} : CodeOk P sy N0 W0 G nt cNo c := fun _ _ _ _ _ _ _ _ _ h => by cases h
theorem post_inBlock {e : Env} {nt id : Nat} {N : KN} {X : KX} {x : Exit} {act : Act} {W : World} (h : Post sy N0 W0 e nt N (outOf id N X) x act W) : Exit.inBlock id (Post sy N0 W0 e nt N X) x act W := by
  cases x with
  | normal => exact h
  | exit i =>
    obtain ⟨e', a, ds, m, nx, h1, h2, h3, h4, h5⟩ := h.is
    have h6 : ifB (Nat.beq i id) (N a ds m nx) (X (.exit i) a ds m nx) = true := h5
    by_cases hi : i = id
    · subst hi
      rw [ifB_true (Nat.beq_refl i)] at h6
      show (if i = i then Post sy N0 W0 e nt N X .normal act W else _)
      rw [if_pos rfl]
      exact ⟨e', a, ds, m, nx, h1, h2, h3, h4, h6⟩
    · rw [ifB_false (beq_no hi)] at h6
      show (if i = id then _ else Post sy N0 W0 e nt N X (.exit i) act W)
      rw [if_neg hi]
      exact ⟨e', a, ds, m, nx, h1, h2, h3, h4, h6⟩
  | goto l => exact h
  | ret => exact h
  | panic ch => exact h
  | outgrown => exact h
theorem cCode_ok (hD : ∀ nt id ops, CodeOk P sy N0 W0 G nt (cDraw P G nt ops) (.region id ops true)) (nt : Nat) : ∀ c : Code, CodeOk P sy N0 W0 G nt (cCode P G nt c) c
  | .skip => fun call _ L a ds m nx N X h e act W hG hst hf hd => wp_skip ⟨e, a, ds, m, nx, Env.le_refl e, hst, hf, hd, h⟩
  | .label l => fun call _ L a ds m nx N X h e act W hG hst hf hd => wp_label ⟨e, a, ds, m, nx, Env.le_refl e, hst, hf, hd, h⟩
  | .region id ops false => cRegion_ok nt id ops
  | .region id ops true => hD nt id ops
  | .seq x y => fun call hcall L a ds m nx N X h e act W hG hst hf hd => by
    have h' : (cCode P G nt x).f call L a ds m nx (fun a ds m nx => (cCode P G nt y).f call L a ds m nx N X) X = true := h
    refine wp_seq (wp_mono (cCode_ok hD nt x call hcall L a ds m nx _ X h' e act W hG hst hf hd) ?_)
    intro x' act' W' hP
    cases x' with
    | normal =>
      obtain ⟨e', a', ds', m', nx', he, hst', hf', hd', hC⟩ := hP.is
      exact wp_mono (cCode_ok hD nt y call hcall L a' ds' m' nx' N X hC e' act' W' (hG.mono he) hst' hf' hd') fun x act W h => Post.mono h he fun _ _ _ _ h => h
    | exit id => exact hP
    | goto l => exact hP
    | ret => exact hP
    | panic ch => exact hP
    | outgrown => exact hP
  | .cond c x y => fun call hcall L a ds m nx N X h e act W hG hst hf hd => by
    have h' : (cOpd G c).k a (fun v => asBool v fun b => ifB b ((cCode P G nt x).f call L a ds m nx N X) ((cCode P G nt y).f call L a ds m nx N X)) = true := h
    obtain ⟨v, h1, h2⟩ := cOpd_ok (l := #[c]) hG (hf.ops _) (x := c) (by simp) h'
    obtain ⟨b, rfl, h3⟩ := asBool_yes h1
    generalize hc : act.eval c = cv at h2
    cases h2
    cases b with
    | true => exact wp_cond_true hc (cCode_ok hD nt x call hcall L a ds m nx N X h3 e act W hG hst hf hd)
    | false => exact wp_cond_false hc (cCode_ok hD nt y call hcall L a ds m nx N X h3 e act W hG hst hf hd)
  | .block id x => fun call hcall L a ds m nx N X h e act W hG hst hf hd => by
    have h' : (cCode P G nt x).f call L a ds m nx N (outOf id N X) = true := h
    exact wp_block (wp_mono (cCode_ok hD nt x call hcall L a ds m nx N _ h' e act W hG hst hf hd) fun x act W h => post_inBlock h)
  | .loop x => fun call hcall L a ds m nx N X h e act W hG hst hf hd => by
    have h' : loopK (cCode P G nt x) call L X L a ds m nx = true := h
    intro fr k cs
    obtain ⟨x', act', W', hP, harr⟩ := loop_ok (cCode_ok hD nt x) hcall L X N L a ds m nx h' e act W hG hst hf hd fr k cs
    exact ⟨x', act', W', hP, .of_steps (.one step_loop) harr⟩
  | .exit id => fun call _ L a ds m nx N X h e act W hG hst hf hd => wp_exit ⟨e, a, ds, m, nx, Env.le_refl e, hst, hf, hd, h⟩
  | .goto l => fun call _ L a ds m nx N X h e act W hG hst hf hd => wp_goto ⟨e, a, ds, m, nx, Env.le_refl e, hst, hf, hd, h⟩
  | .ret => fun call _ L a ds m nx N X h e act W hG hst hf hd => wp_ret ⟨e, a, ds, m, nx, Env.le_refl e, hst, hf, hd, h⟩
  | .rangeFunc .. => cNo_ok
  | .scope _ => cNo_ok
  | .refuse _ => cNo_ok

/-! ### Entering, results -/
theorem enter_from : ∀ (vs : List Value) (l : AV) (o : Nat) (c : T AV) {e : Env} {K : T AV → Bool}, RL sy e l vs → foldAV (β := Nat → T AV → Bool) (fun _ c => K c) (fun x r o c => T.setP und x o c fun c => frcN (Nat.succ o) fun o => r o c) l o c = true → o + vs.length ≤ 2 ^ 25 →
    ∃ c', K c' = true ∧ (∀ i, i < vs.length → ∃ v, vs[i]? = some v ∧ RV sy e (T.get und c' ((o + i))) v) ∧ ∀ i, i < 2 ^ 25 → (i < o ∨ o + vs.length ≤ i) → T.get und c' i = T.get und c i
  | [], l, o, c, e, K, hl, h, _ => by
    cases hl
    exact ⟨c, h, (fun i hi => by simp at hi), fun i _ _ => rfl⟩
  | v :: vs, l, o, c, e, K, hl, h, hb => by
    cases hl with
    | cons hx hl =>
      rename_i x l
      simp only [List.length_cons] at hb
      have h' : T.setP und x o c (fun c => frcN (Nat.succ o) fun o => foldAV (β := Nat → T AV → Bool) (fun _ c => K c) (fun x r o c => T.setP und x o c fun c => frcN (Nat.succ o) fun o => r o c) l o c) = true := h
      rw [T.setP_eq, frcN_eq] at h'
      obtain ⟨c', h1, h2, h3⟩ := enter_from vs l (o + 1) _ hl h' (by omega)
      refine ⟨c', h1, fun i hi => ?_, fun i hi1 hi2 => ?_⟩
      · cases i with
        | zero =>
          have := h3 o (by omega) (.inl (by omega))
          refine ⟨v, rfl, ?_⟩
          have e3 : (o + 0) = o := rfl
          rw [e3, this, T.get_set]
          exact hx
        | succ i =>
          obtain ⟨u, h7, h8⟩ := h2 i (by simpa using hi)
          have e2 : o + (i + 1) = o + 1 + i := by omega
          exact ⟨u, by simpa using h7, by rw [e2]; exact h8⟩
      · simp only [List.length_cons] at hi2
        rw [h3 i hi1 (by omega), T.get_set_ne _ _ _ _ _ (fun eb => by
          have := bitsOf_inj (by omega) hi1 eb
          omega)]
theorem enter_ok {l : AV} {args : List Value} {nt : Nat} {e : Env} {K : T AV → Bool} (h : enterK l K = true) (hl : RL sy e l args) (hn : args.length ≤ nt) (ht : nt ≤ top) : ∃ a, K a = true ∧ Frm sy e nt a (args.toArray ++ Array.replicate (nt - args.toArray.size) undef) := by
  obtain ⟨a, h1, h2, h3⟩ := enter_from args l 0 .leaf hl h (by unfold top at ht; omega)
  refine ⟨a, h1, ⟨by simp; omega, fun t htt => ?_⟩⟩
  rw [Array.getD_eq_getD_getElem?]
  by_cases hta : t < args.length
  · obtain ⟨v, h4, h5⟩ := h2 t hta
    rw [Nat.zero_add] at h5
    rw [Array.getElem?_append_left (by simpa using hta)]
    simp only [List.getElem?_toArray, h4, Option.getD_some]
    exact h5
  · have h6 := h3 t (by unfold top at htt; omega) (.inr (by omega))
    rw [h6, T.get_leaf, Array.getElem?_append_right (by simp; omega), Array.getElem?_replicate]
    split <;> exact RV.und
theorem cRes1_ok {r : ResultVar} {nt : Nat} {a : T AV} {m : M} {nx : Nat} {tmps : Array Value} {W : World} {e : Env} {K : AV → Bool} (h : (cRes1 P r).f a m K = true) (hf : Frm sy e nt a tmps) (hst : St sy N0 W0 e m nx W) :
    ∃ v v', K v = true ∧ RV sy e v v' ∧ (match r with | .tmp t => (pure (tmps.getD t undef) : Sem Value) | .cell x t => do loadVar t (← asAddr (tmps.getD x undef))).run P W = .ok v' W := by
  cases r with
  | tmp t =>
    cases hb : Nat.blt t top with
    | false => simp only [cRes1, hb, BQ.f] at h; cases h
    | true =>
      simp only [cRes1, hb, BQ.f] at h
      rw [T.getP_eq] at h
      exact ⟨_, _, h, hf.get t (blt_iff.1 hb), rfl⟩
  | cell x t =>
    cases hb : Nat.blt x top with
    | false => simp only [cRes1, hb, BQ.f] at h; cases h
    | true =>
      simp only [cRes1, hb, BQ.f] at h
      rw [T.getP_eq] at h
      obtain ⟨ad, y, v, h1, h2, h3, h4⟩ := cLoad_ok h hst.rm (hf.get x (blt_iff.1 hb))
      refine ⟨y, v, h2, h3, ?_⟩
      simp only [Sem.run_bind, h1]
      simp [asAddr, h4]
def resSem (tmps : Array Value) : ResultVar → Sem Value
  | .tmp t => pure (tmps.getD t undef)
  | .cell x t => do loadVar t (← asAddr (tmps.getD x undef))
theorem cResL_ok {nt : Nat} {a : T AV} {m : M} {nx : Nat} {tmps : Array Value} {W : World} {e : Env} (hf : Frm sy e nt a tmps) (hst : St sy N0 W0 e m nx W) : ∀ (rs : List ResultVar) {K : AV → Bool}, (cResL P rs).f a m K = true → ∃ w vs, K w = true ∧ RL sy e w vs ∧ (rs.mapM (resSem tmps)).run P W = .ok vs W ∧ vs.length = rs.length
  | [], K, h => ⟨.eol, [], h, .eol, rfl, rfl⟩
  | r :: rs, K, h => by
    have h' : (cRes1 P r).f a m (fun v => (cResL P rs).f a m fun w => K (.cons v w)) = true := h
    obtain ⟨v, v', h1, h2, h3⟩ := cRes1_ok h' hf hst
    obtain ⟨w, vs, h4, h5, h6, h7⟩ := cResL_ok hf hst rs h1
    have h3' : (resSem tmps r).run P W = .ok v' W := by cases r <;> exact h3
    refine ⟨_, _, h4, .cons h2 h5, ?_, congrArg Nat.succ h7⟩
    simp [List.mapM_cons, Sem.run_bind, h3', h6]
theorem results_eq (fn : Func) (tmps : Array Value) : results fn tmps = (do let vs ← fn.results.mapM (resSem tmps); pure (if h : vs.size = 1 then vs[0] else .tuple vs)) := by
  unfold results
  congr 1
  try (congr 1; funext r; cases r <;> rfl)
theorem cRes_ok {fn : Func} {nt : Nat} {a : T AV} {m : M} {nx : Nat} {tmps : Array Value} {W : World} {e : Env} {K : AV → Bool} (h : (cRes P fn.results.toList).f a m K = true) (hf : Frm sy e nt a tmps) (hst : St sy N0 W0 e m nx W) :
    ∃ v v', K v = true ∧ RV sy e v v' ∧ (results fn tmps).run P W = .ok v' W := by
  have key : ∀ (rs : List ResultVar), fn.results.toList = rs → (results fn tmps).run P W = ((rs.mapM (resSem tmps)).run P W).andThen fun vs W' => .ok (if h : vs.length = 1 then vs[0] else .tuple vs.toArray) W' := by
    intro rs hrs
    rw [results_eq, Array.mapM_eq_mapM_toList, hrs]
    simp [Sem.run_bind]
  cases hr : fn.results.toList with
  | nil =>
    rw [hr] at h
    have h' : (cResL P []).f a m (fun w => K (.tup w)) = true := h
    obtain ⟨w, vs, h1, h2, h3, _⟩ := cResL_ok hf hst [] h'
    refine ⟨_, _, h1, .tup h2, ?_⟩
    rw [key [] hr, h3]
    cases h2 with
    | eol => simp
    | cons hv hl => simp at h3
  | cons r rs =>
    cases rs with
    | nil =>
      rw [hr] at h
      have h' : (cRes1 P r).f a m K = true := h
      obtain ⟨v, v', h1, h2, h3⟩ := cRes1_ok h' hf hst
      have h3' : (resSem tmps r).run P W = .ok v' W := by cases r <;> exact h3
      refine ⟨v, v', h1, h2, ?_⟩
      rw [key [r] hr]
      simp [List.mapM_cons, h3']
    | cons r2 rs =>
      rw [hr] at h
      have h' : (cResL P (r :: r2 :: rs)).f a m (fun w => K (.tup w)) = true := h
      obtain ⟨w, vs, h1, h2, h3, h4⟩ := cResL_ok hf hst _ h'
      refine ⟨_, _, h1, .tup h2, ?_⟩
      rw [key _ hr, h3]
      have hlen : vs.length ≠ 1 := by
        rw [h4]; simp
      simp [hlen]
end
end Go.Proofs.YtdoddlkppkegnaaGreatDoor.Ev
