/- Regions that draw their order: what the evaluator has run comes up. No conditions. -/
import Derived.Test.YtdoddlkppkegnaaGreatDoorEvK
namespace Go.Proofs.YtdoddlkppkegnaaGreatDoor.Ev
open Go Go.RowKit
noncomputable section
set_option linter.unusedSimpArgs false
set_option linter.unusedVariables false
theorem Upon.mono {P : Program} {Y Y' : Value → World → Prop} {Z Z' : List Value → World → Prop} {r : Result Next} (h : Upon P Y Z r) (hY : ∀ v W, Y v W → Y' v W) (hZ : ∀ cs W, Z cs W → Z' cs W) : Upon P Y' Z' r := by
  cases r with
  | ok n w =>
    cases n with
    | value v => exact hY _ _ h
    | skip => exact hY _ _ h
    | enter f args =>
      refine Calls.mono h fun en w' hw => ?_
      cases en with
      | returned v => exact hY _ _ hw
      | panicked chain =>
        obtain ⟨cs, h1, h2⟩ := hw
        exact ⟨cs, h1, hZ _ _ h2⟩
      | outgrown => exact hw
    | _ => exact h
  | halt x w =>
    cases x with
    | panic v => exact hZ _ _ h
    | _ => exact h
theorem lset {l : Array Bool} {i j : Nat} (hi : i < l.size) : (l.setIfInBounds i true).getD j false = true ↔ j = i ∨ l.getD j false = true := by
  by_cases h : j = i
  · subst h
    rw [Array.getD_eq_getD_getElem?, Array.getElem?_setIfInBounds_self_of_lt hi]
    simp
  · rw [Array.getD_eq_getD_getElem?, Array.getElem?_setIfInBounds_ne (Ne.symm h), ← Array.getD_eq_getD_getElem?]
    simp [h]
section
variable {sy : Nat → Value} {P : Program} {G : Nat} {ops : Array Oper} {ms : List Nat}
variable {N0 : Par} {W0 : World} {nt : Nat} {call : CallK} {L : Nat} {N : KN} {X : KX} {a0 : T AV} {e0 : Env} {listed : Array Bool} {act : Act} {W : World} {val : Nat → AV} {pn : Nat → Option (Nat)} {R : Par} {e : Env} {a : T AV} {ds : List Dfr} {m : M} {nx d : Nat} {last : Option Nat} {doneL rest : List Nat}
/-- What comes ahead of an operation that may come up has come up. -/
theorem ready_bef (S : Stat ops ms) (lcl : ∀ j, listed.getD j false = true → ∀ i, bef ms i j = true → listed.getD i false = true) {i : Nat} {o : Oper} (ho : ops[i]? = some o) (hr : i ∈ Region.ready .any ops listed) {q : Nat} (hq : bef ms q i = true) : listed.getD q false = true := by
  obtain ⟨_, o', ho', hb⟩ := mem_ready.1 hr
  rw [ho] at ho'; cases ho'
  obtain ⟨ed, h1, h2, h3⟩ := S.clo ho hq
  have h4 := hb ed h1 h2
  rcases h3 with rfl | h3
  · exact h4
  · exact lcl _ h4 q h3
theorem ready_not (hsz : listed.size = ops.size) {i : Nat} (hr : i ∈ Region.ready .any ops listed) : listed.getD i false = false ∧ i < listed.size := by
  obtain ⟨h0, o, ho, _⟩ := mem_ready.1 hr
  have hlt : i < ops.size := (Array.getElem?_eq_some_iff.1 ho).1
  refine ⟨?_, by omega⟩
  rw [Array.getD_eq_getD_getElem?] at h0 ⊢
  rw [Array.getElem?_eq_getElem (by omega)] at h0 ⊢
  exact h0
/-- What an operation that may come up looks at is what the evaluator saw. -/
theorem DS.look (S : Stat ops ms) (h : DS P sy G N0 W0 nt ops ms call L N X a0 e0 listed act W val pn R e a ds m nx d last doneL rest) {i : Nat} {o : Oper} (ho : ops[i]? = some o) (hr : i ∈ Region.ready .any ops listed) {aj : T AV}
    (hm : ∀ t ∈ looks ops.toList o, t < top → Mixed ops val a0 (fun q => bef ms q i = true) t (T.get und aj t)) : LookOk sy ops e aj act o := by
  intro t ht htop
  obtain ⟨x, hx, hv⟩ := h.cur t htop
  have hun := (ready_not h.sz hr).1
  have := (hm t ht htop).same hx fun q oq hoq htq => ⟨fun hb => ready_bef S h.lcl ho hr hb, fun hl => ?_⟩
  · rw [this]; exact hv
  · rcases S.look i o t q oq ho ht hoq htq with rfl | hb | ⟨hb, _⟩
    · rw [hun] at hl; cases hl
    · exact hb
    · have := h.lcl q hl i hb
      rw [hun] at this; cases this
theorem put_get {act : Act} {dst : Option Tmp} {u : Value} {t : Nat} (h : dst ≠ some t) : (act.put dst u).tmps.getD t undef = act.tmps.getD t undef := by
  cases dst with
  | none => rfl
  | some d =>
    have hne : d ≠ t := fun e => h (by rw [e])
    show (act.tmps.setIfInBounds d u).getD t undef = _
    rw [Array.getD_eq_getD_getElem?, Array.getD_eq_getD_getElem?, Array.getElem?_setIfInBounds_ne hne]
theorem put_same {act : Act} {u : Value} {t : Nat} (h : t < act.tmps.size) : (act.put (some t) u).tmps.getD t undef = u := by
  show (act.tmps.setIfInBounds t u).getD t undef = _
  rw [Array.getD_eq_getD_getElem?, Array.getElem?_setIfInBounds_self_of_lt h]; rfl
theorem put_size {act : Act} {dst : Option Tmp} {u : Value} : (act.put dst u).tmps.size = act.tmps.size := by
  cases dst with
  | none => rfl
  | some d => simp [Act.put]
/-- An operation that the evaluator has run has come up. -/
theorem DS.list (S : Stat ops ms) (h : DS P sy G N0 W0 nt ops ms call L N X a0 e0 listed act W val pn R e a ds m nx d last doneL rest) {i : Nat} {o : Oper} (ho : ops[i]? = some o) (hd : Nat.testBit d i = true) (hr : i ∈ Region.ready .any ops listed)
    {u : Value} {W' : World} {R' : Par} {e' : Env} (he : e.le e') (hst : St sy R' W0 e' m nx W') (hRn : R'.n = R.n) (hR : ∀ q B, R.res q = some B → pn i ≠ some q → R'.res q = some B) (hu : RV sy e' (val i) u) :
    DS P sy G N0 W0 nt ops ms call L N X a0 e0 (listed.setIfInBounds i true) (act.put o.dst u) W' val (upd pn i none) R' e' a ds m nx d last doneL rest := by
  obtain ⟨hun, hlt⟩ := ready_not h.sz hr
  refine ⟨by rw [Array.size_setIfInBounds]; exact h.sz, fun j hj => ?_, fun j hj hk => (lset hlt).2 (.inr (h.ch j hj hk)), h.row, fun j hj q hq => ?_, h.dcl, h.dl, h.go, Env.le_trans h.le he, h.glob.mono he, hst, hRn.trans h.rn, fun q B hq => ?_, ?_, ?_, h.afr, fun t ht => ?_, h.dnt, fun j oj hj hjl hoj => ?_, fun j j' p hp hp' => ?_, fun j p hp => ?_⟩
  · rcases (lset hlt).1 hj with rfl | hj
    · exact hd
    · exact h.lis j hj
  · rcases (lset hlt).1 hj with rfl | hj
    · exact (lset hlt).2 (.inr (ready_bef S h.lcl ho hr hq))
    · exact (lset hlt).2 (.inr (h.lcl j hj q hq))
  · refine hR q B (h.rres q B hq) fun hp => ?_
    have := (h.fresh i q hp).2.1
    rw [hq] at this; cases this
  · rw [put_size]; exact h.size
  · rw [put_defers]; exact h.rd.mono he
  · by_cases hdst : o.dst = some t
    · refine ⟨val i, ⟨fun j oj hoj htj _ => ?_, fun hn => absurd ((lset hlt).2 (.inl rfl)) (hn i o ho hdst)⟩, ?_⟩
      · rw [S.dst j i oj o t hoj ho htj hdst]
      · rw [hdst, put_same (by rw [h.size]; exact h.dnt i o t hd ho hdst)]
        exact hu
    · obtain ⟨x, hx, hv⟩ := h.cur t ht
      refine ⟨x, hx.conv fun j oj hoj htj => ⟨fun hl => (lset hlt).2 (.inr hl), fun hl => ?_⟩, by rw [put_get hdst]; exact hv.mono he⟩
      rcases (lset hlt).1 hl with rfl | hl
      · rw [ho] at hoj; cases hoj; exact absurd htj hdst
      · exact hl
  · have hji : j ≠ i := fun eq => by
      rw [(lset hlt).2 (.inl eq)] at hjl; cases hjl
    have hjl' : listed.getD j false = false := by
      cases hq : listed.getD j false with
      | false => rfl
      | true => rw [(lset hlt).2 (.inr hq)] at hjl; cases hjl
    obtain ⟨aj, h1, h2⟩ := h.pend j oj hj hjl' hoj
    refine ⟨aj, h1, ?_⟩
    rw [upd_other hji]
    cases h2 with
    | skip h1 h2 => exact .skip h1 h2
    | plain h1 h2 => exact .plain h1 h2
    | load h1 h2 h3 h4 => exact .load h1 h2 h3 h4
    | alloc h1 h2 p h3 B h4 h5 => exact .alloc h1 h2 p h3 B (hR p B h4 fun hp => hji (h.dis j i p h3 hp)) h5
  · by_cases hji : j = i
    · subst hji; rw [upd_same] at hp; cases hp
    · by_cases hji' : j' = i
      · subst hji'; rw [upd_same] at hp'; cases hp'
      · rw [upd_other hji] at hp
        rw [upd_other hji'] at hp'
        exact h.dis j j' p hp hp'
  · by_cases hji : j = i
    · subst hji; rw [upd_same] at hp; cases hp
    · rw [upd_other hji] at hp
      obtain ⟨g1, g2, B, hB⟩ := h.fresh j p hp
      exact ⟨g1, g2, B, hR p B hB fun hp' => hji (h.dis j i p hp hp')⟩
/-- An operation that the evaluator has run comes up. -/
theorem DS.take (S : Stat ops ms) (hcall : ∀ N0 W0, CallOk P sy N0 W0 G call) (h : DS P sy G N0 W0 nt ops ms call L N X a0 e0 listed act W val pn R e a ds m nx d last doneL rest) {i : Nat} {o : Oper} (ho : ops[i]? = some o) (hd : Nat.testBit d i = true) (hr : i ∈ Region.ready .any ops listed)
    {Q : Exit → Act → World → Prop} {K : Act → World → Prop} (hK : ∀ act' W' pn' R' e', DS P sy G N0 W0 nt ops ms call L N X a0 e0 (listed.setIfInBounds i true) act' W' val pn' R' e' a ds m nx d last doneL rest → K act' W') : wpOp P ops Q i K act W := by
  obtain ⟨hun, hlt⟩ := ready_not h.sz hr
  obtain ⟨aj, hm, hpd⟩ := h.pend i o hd hun ho
  have hl := h.look S ho hr hm
  unfold wpOp
  rw [ho]
  simp only
  have hrun : Runs P sy G o aj (val i) m nx → o.wp P act W K Q := fun hrn => by
    refine upon_wp ((hrn R W0 e act W h.glob h.st hl.opsOk).mono ?_ ?_)
    · rintro u W2 ⟨e2, g1, g2, g3⟩
      exact hK _ _ _ _ _ (h.list S ho hd hr g1 g2 rfl (fun q B hq _ => hq) g3)
    · intro cs W2 hf
      exact hf.elim
  cases hpd with
  | skip hw hv =>
    rw [if_neg (by rw [hw e act hl]; simp)]
    exact hK _ _ _ _ _ (h.list S ho hd hr (Env.le_refl e) h.st rfl (fun q B hq _ => hq) (by rw [hv]; exact RV.und))
  | plain hw hrn =>
    rw [if_pos (hw e act hl)]
    exact .inl (hrun (hrn m nx))
  | load hw hgy hk hld =>
    rw [if_pos (hw e act hl)]
    refine .inl (hrun (runs_of hcall fun K KP hK => ?_))
    obtain ⟨t, x, hop⟩ := kind_load hk
    rw [hop]
    have : (cOpd G x).k aj (fun v => (cLoad P t).f m v fun v => K v m nx) = true := by rw [hld t x hop]; exact hK
    simp only [cOp, BX.f, undF_eq, infoF_eq, funF_eq]
    exact this
  | alloc hw hk p hpo B hB hal =>
    rw [if_pos (hw e act hl)]
    refine .inl (upon_wp ?_)
    obtain ⟨cs, el, w', k1, k2, k3, k4, k5⟩ := hal e act h.glob hl.opsOk
    rw [k5 W]
    refine hK _ _ _ _ _ (h.list S ho hd hr (R' := ⟨R.n, fun q => if q = p then none else R.res q⟩) (e' := e.new p (W.heap.size, 0, cs.size)) (Env.le_new (h.st.rm.res p B hB).1) ⟨h.st.rm.bind h.st.hN hB k1 k2 k3, h.st.be.alloc h.st.hN _, Nat.le_of_lt (Nat.lt_of_le_of_lt h.st.hN (size_alloc W _))⟩ rfl (fun q C hq hne => ?_) (k4 _ _ Env.new_same))
    show (if q = p then none else R.res q) = some C
    rw [if_neg (fun eq => hne (by rw [eq]; exact hpo))]
    exact hq
end
end
end Go.Proofs.YtdoddlkppkegnaaGreatDoor.Ev
