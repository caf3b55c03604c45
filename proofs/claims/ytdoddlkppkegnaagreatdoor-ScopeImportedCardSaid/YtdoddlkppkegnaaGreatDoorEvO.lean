/- Regions that draw their order: a call or a store comes up. No conditions. -/
import Derived.Test.YtdoddlkppkegnaaGreatDoorEvL
namespace Go.Proofs.YtdoddlkppkegnaaGreatDoor.Ev
open Go Go.RowKit
noncomputable section
set_option linter.unusedSimpArgs false
set_option linter.unusedVariables false
theorem lt25 {q : Nat} (h : q < top) : q < 2 ^ 25 := by unfold top at h; omega
theorem sameV_eq : ∀ {x y : AV}, sameV x y = true → x = y := by
  intro x
  induction x with
  | int k n => intro y h; cases y <;> first | (simp [sameV] at h; done) | (simp only [sameV, Bool.and_eq_true] at h; rw [sameK_yes h.1, eqI_iff.1 h.2])
  | bool b => intro y h; cases y <;> first | (simp [sameV] at h; done) | (rename_i c; cases b <;> cases c <;> first | rfl | (simp [sameV] at h))
  | str s => intro y h; cases y <;> first | (simp [sameV] at h; done) | (simp only [sameV] at h; rw [eqNs_iff.1 h])
  | ref p o => intro y h; cases y <;> first | (simp [sameV] at h; done) | (simp only [sameV, Bool.and_eq_true] at h; rw [beq_iff.1 h.1, beq_iff.1 h.2])
  | slc p o es n c => intro y h; cases y <;> first | (simp [sameV] at h; done) | (simp only [sameV, Bool.and_eq_true] at h; rw [beq_iff.1 h.1.1.1.1, beq_iff.1 h.1.1.1.2, beq_iff.1 h.1.1.2, beq_iff.1 h.1.2, eq_of_beq h.2])
  | nil k => intro y h; cases y <;> first | (cases k <;> simp [sameV] at h; done) | (rename_i j; cases k <;> cases j <;> first | rfl | (simp [sameV] at h))
  | fn f x c ih1 ih2 => intro y h; cases y <;> first | (simp [sameV] at h; done) | (simp only [sameV, Bool.and_eq_true] at h; rw [beq_iff.1 h.1.1, ih1 h.1.2, ih2 h.2])
  | ifc t v ih => intro y h; cases y <;> first | (simp [sameV] at h; done) | (simp only [sameV, Bool.and_eq_true] at h; rw [beq_iff.1 h.1, ih h.2])
  | agg l ih => intro y h; cases y <;> first | (simp [sameV] at h; done) | (simp only [sameV] at h; rw [ih h])
  | tup l ih => intro y h; cases y <;> first | (simp [sameV] at h; done) | (simp only [sameV] at h; rw [ih h])
  | cons x l ih1 ih2 => intro y h; cases y <;> first | (simp [sameV] at h; done) | (simp only [sameV, Bool.and_eq_true] at h; rw [ih1 h.1, ih2 h.2])
  | eol => intro y h; cases y <;> first | rfl | (simp [sameV] at h; done)
  | sym i => intro y h; cases y <;> simp [sameV] at h
section
variable {sy : Nat → Value} {P : Program} {G : Nat} {ops : Array Oper} {ms : List Nat}
variable {N0 : Par} {W0 : World} {nt : Nat} {call : CallK} {L : Nat} {N : KN} {X : KX} {a0 : T AV} {e0 : Env} {listed : Array Bool} {act : Act} {W : World} {val : Nat → AV} {pn : Nat → Option (Nat)} {R : Par} {e : Env} {a : T AV} {ds : List Dfr} {m : M} {nx d : Nat} {last : Option Nat} {doneL rest : List Nat}
theorem again_det {t : TypeId} {x : Operand} {a : T AV} {m : M} : Det (fun K => (cOpd G x).k a fun v => (cLoad P t).f m v K) := Det.opd fun v => Det.load
theorem again1_true {j : Nat} {K : Bool} (h : (cAgain1 P G ops.toList j).f a m K = true) : K = true := by
  cases K with
  | true => rfl
  | false =>
    exfalso
    unfold cAgain1 at h
    split at h
    · cases h
    · split at h
      · rename_i t x dj _ _
        have hb : ∀ K' : Bool, ((cOpd G x).k a fun v => (cLoad P t).f m v fun w => T.getP und a dj fun u => ifB (sameV w u) false false) = K' → K' = true → False := fun K' he hK => by
          rcases again_det (P := P) (G := G) (t := t) (x := x) (a := a) (m := m) with ⟨v, hv⟩ | hn
          · have := (hv fun w => T.getP und a dj fun u => ifB (sameV w u) false false).symm.trans (he.trans hK)
            rw [T.getP_eq] at this
            cases hs : sameV v (T.get und a dj) <;> rw [hs] at this <;> cases this
          · have := (hn fun w => T.getP und a dj fun u => ifB (sameV w u) false false).symm.trans (he.trans hK)
            cases this
        split at h
        · exact hb _ rfl h
        · split at h
          · cases h
          · simp only [T.getP_eq] at h
            rcases isIt_sem (sy := fun _ => undef) h with ⟨_, h1⟩ | ⟨_, h1⟩
            · refine hb _ rfl ?_
              simpa only [T.getP_eq] using h1
            · cases h1
      · cases h
theorem again1_yes {j : Nat} {o : Oper} (ho : ops[j]? = some o) {t : TypeId} {x : Operand} (hop : o.op = .load t x) {K : Bool} (h : (cAgain1 P G ops.toList j).f a m K = true) (hg : GuardYes ops o a) :
    ∃ dj : Nat, o.dst = some dj ∧ ∀ K' : AV → Bool, (cOpd G x).k a (fun v => (cLoad P t).f m v K') = K' (T.get und a dj) := by
  have ho' : ops.toList[j]? = some o := by rw [Array.getElem?_toList]; exact ho
  unfold cAgain1 at h
  rw [ho'] at h
  simp only [hop] at h
  cases hd : o.dst with
  | none => simp only [hd] at h; cases h
  | some dj =>
    simp only [hd] at h
    have hb : ((cOpd G x).k a fun v => (cLoad P t).f m v fun w => T.getP und a dj fun u => ifB (sameV w u) K false) = true := by
      rcases hg with hg | ⟨g, w, gd, hg, hgd, htop, hv⟩
      · simp only [hg] at h
        exact h
      · have hgd' : (ops.toList[g]?).bind (·.dst) = some gd := by rw [Array.getElem?_toList]; exact hgd
        simp only [hg, hgd', BE.f] at h
        rw [T.getP_eq, hv] at h
        cases w <;> exact h
    refine ⟨dj, rfl, fun K' => ?_⟩
    rcases again_det (P := P) (G := G) (t := t) (x := x) (a := a) (m := m) with ⟨v, hv⟩ | hn
    · have h1 := (hv fun w => T.getP und a dj fun u => ifB (sameV w u) K false).symm.trans hb
      rw [T.getP_eq] at h1
      obtain ⟨h2, _⟩ := ifB_yes h1
      rw [← sameV_eq h2]
      exact hv K'
    · have := (hn fun w => T.getP und a dj fun u => ifB (sameV w u) K false).symm.trans hb
      cases this
theorem again_yes : ∀ (l : List Nat) {K : Bool}, (cAgain P G ops.toList l).f a m K = true → K = true ∧ ∀ j ∈ l, ∃ K', (cAgain1 P G ops.toList j).f a m K' = true
  | [], K, h => ⟨h, fun j hj => by cases hj⟩
  | j :: l, K, h => by
    have h' : (cAgain1 P G ops.toList j).f a m ((cAgain P G ops.toList l).f a m K) = true := h
    have h1 := again1_true h'
    obtain ⟨h2, h3⟩ := again_yes l h1
    refine ⟨h2, fun q hq => ?_⟩
    rcases List.mem_cons.1 hq with rfl | hq
    · exact ⟨_, h'⟩
    · exact h3 q hq
theorem again_mem : ∀ (l : List Nat) {mk j : Nat}, j ∈ l → kindAt ops.toList j = 1 → Nat.testBit mk j = false → j ∈ againOf ops.toList mk l
  | [], mk, j, h, _, _ => by cases h
  | q :: l, mk, j, h, hk, hb => by
    unfold againOf
    rcases List.mem_cons.1 h with rfl | h
    · rw [hk, hb]
      exact List.mem_cons_self
    · have ih := again_mem l h hk hb
      split
      · exact List.mem_cons_of_mem _ ih
      · exact ih
theorem junk_yes : ∀ (l : List Oper) (a : T AV) {K : T AV → Bool}, (∀ o ∈ l, ∀ t : Nat, o.dst = some t → t < top) → (cJunk l).f a K = true → ∃ a', K a' = true ∧ ∀ t : Nat, t < top → T.get und a' t = .eol ∨ ((∀ o ∈ l, o.dst ≠ some t) ∧ T.get und a' t = T.get und a t)
  | [], a, K, _, h => ⟨a, h, fun t _ => .inr ⟨(fun o ho => by cases ho), rfl⟩⟩
  | o :: l, a, K, ht, h => by
    have ht' : ∀ o ∈ l, ∀ t : Nat, o.dst = some t → t < top := fun o ho => ht o (List.mem_cons_of_mem _ ho)
    cases hd : o.dst with
    | none =>
      have h' : (cJunk l).f a K = true := by simpa only [cJunk, hd] using h
      obtain ⟨a', h1, h2⟩ := junk_yes l a ht' h'
      refine ⟨a', h1, fun t htt => (h2 t htt).imp id fun h3 => ⟨fun o' ho' => ?_, h3.2⟩⟩
      rcases List.mem_cons.1 ho' with rfl | ho'
      · rw [hd]; simp
      · exact h3.1 o' ho'
    | some q =>
      have h' : (T.setP und .eol q a fun a => (cJunk l).f a K) = true := by simpa only [cJunk, hd] using h
      rw [T.setP_eq] at h'
      obtain ⟨a', h1, h2⟩ := junk_yes l _ ht' h'
      refine ⟨a', h1, fun t htt => ?_⟩
      rcases h2 t htt with h3 | ⟨h3, h4⟩
      · exact .inl h3
      · by_cases hq : t = q
        · subst hq
          rw [T.get_set] at h4
          exact .inl h4
        · have hq' : q < top := ht o List.mem_cons_self q hd
          have hne : q ≠ t := fun eb => hq (bitsOf_inj (lt25 hq') (lt25 htt) eb).symm
          rw [T.get_set_ne _ _ _ _ _ hne] at h4
          refine .inr ⟨fun o' ho' => ?_, h4⟩
          rcases List.mem_cons.1 ho' with rfl | ho'
          · rw [hd]; intro e; cases e; exact hq rfl
          · exact h3 o' ho'
theorem opd_congr {x : Operand} {a a' : T AV} (h : ∀ t : Nat, x = .tmp t → t < top → T.get und a t = T.get und a' t) (K : AV → Bool) : (cOpd G x).k a K = (cOpd G x).k a' K := by
  cases x with
  | tmp t =>
    cases hb : Nat.blt t top with
    | false => simp only [cOpd, hb, BO.k]
    | true =>
      simp only [cOpd, hb, T.getP_eq, BO.k]
      rw [h t rfl (blt_iff.1 hb)]
  | const v => simp only [cOpd, BO.k]; split <;> rfl
  | global g => simp only [cOpd, BO.k]; split <;> rfl
  | func f => rfl
theorem look_opd {o : Oper} {t : TypeId} {x : Operand} (hop : o.op = .load t x) {q : Nat} (hx : x = .tmp q) : q ∈ looks ops.toList o := by
  unfold looks
  refine List.mem_append.2 (.inl (List.mem_filterMap.2 ⟨.tmp q, ?_, rfl⟩))
  rw [hop, hx]
  simp [Op.operands]
theorem look_guard {o : Oper} {g : Nat} {w : Bool} (hg : o.guard = some (g, w)) {q : Nat} (hd : (ops[g]?).bind (·.dst) = some q) : q ∈ looks ops.toList o := by
  unfold looks
  refine List.mem_append.2 (.inr ?_)
  rw [hg]
  simp only [Array.getElem?_toList]
  rw [hd]; simp
/-- A call or a store has come up. -/
theorem DS.step (S : Stat ops ms) {i : Nat} {o : Oper} (h : DS P sy G N0 W0 nt ops ms call L N X a0 e0 listed act W val pn R e a ds m nx d last doneL (i :: rest)) (ho : ops[i]? = some o) (hk : kindOf o.op = 3) (hr : i ∈ Region.ready .any ops listed)
    {v : AV} {u : Value} {a' : T AV} {m' : M} {nx' : Nat} {W' : World} {e' : Env} (he : e.le e') (hst : St sy R W0 e' m' nx' W') (hu : RV sy e' v u) (hput : (o.dst = none ∧ a' = a) ∨ ∃ t : Nat, o.dst = some t ∧ t < nt ∧ t < top ∧ a' = T.set und v t a)
    (hgo : (cAgain P G ops.toList (againOf ops.toList (nth ms i) doneL)).f a' m' ((cPlan P G nt ops (stepsOf ops.toList ms (i :: doneL) rest)).f call L a' ds m' nx' N X) = true) :
    DS P sy G N0 W0 nt ops ms call L N X a0 e0 (listed.setIfInBounds i true) (act.put o.dst u) W' (upd val i v) pn R e' a' ds m' nx' (Nat.lor d (Nat.pow 2 i)) (some i) (i :: doneL) rest := by
  obtain ⟨r1, r2, r3, r4, r5⟩ := row_cons h.row
  obtain ⟨hun, hlt⟩ := ready_not h.sz hr
  have hki : kindAt ops.toList i = 3 := by rw [kindAt_eq ho]; exact hk
  obtain ⟨hgo1, hgo2⟩ := again_yes _ hgo
  have hid : ∀ j, Nat.testBit d j = true → j ≠ i := fun j hj e => by rw [e, r2] at hj; cases hj
  have hil : ¬ listed.getD i false = true := fun hl => by rw [hun] at hl; cases hl
  have hafr : ∀ t : Nat, t < top → Mixed ops (upd val i v) a0 (fun j => Nat.testBit (Nat.lor d (Nat.pow 2 i)) j = true) t (T.get und a' t) := fun t ht => by
    have hm := (h.afr t ht).more (v := v) (i := i) (fun hd => by rw [r2] at hd; cases hd)
    rcases hput with ⟨hd, rfl⟩ | ⟨t', hd, h1, h2, rfl⟩
    · refine hm.conv fun j oj hoj htj => ⟨fun hh => bits_more.2 (.inl hh), fun hh => ?_⟩
      rcases bits_more.1 hh with hh | rfl
      · exact hh
      · rw [ho] at hoj; cases hoj; rw [hd] at htj; cases htj
    · by_cases htt : t = t'
      · subst htt
        rw [T.get_set]
        refine ⟨fun j oj hoj htj _ => ?_, fun hn => absurd (bits_more.2 (.inr rfl)) (hn i o ho hd)⟩
        have := S.dst j i oj o t hoj ho htj hd
        rw [this, upd_same]
      · have hne : t' ≠ t := fun eb => htt (bitsOf_inj (by unfold top at h2; omega) (by unfold top at ht; omega) eb).symm
        rw [T.get_set_ne _ _ _ _ _ hne]
        refine hm.conv fun j oj hoj htj => ⟨fun hh => bits_more.2 (.inl hh), fun hh => ?_⟩
        rcases bits_more.1 hh with hh | rfl
        · exact hh
        · rw [ho] at hoj; cases hoj; rw [hd] at htj; cases htj; exact absurd rfl htt
  have hdnt : ∀ (j : Nat) (oj : Oper) (t : Nat), Nat.testBit (Nat.lor d (Nat.pow 2 i)) j = true → ops[j]? = some oj → oj.dst = some t → t < nt := fun j oj t hj hoj htj => by
    rcases bits_more.1 hj with hj | rfl
    · exact h.dnt j oj t hj hoj htj
    · rw [ho] at hoj; cases hoj
      rcases hput with ⟨hd, _⟩ | ⟨t', hd, h1, _, _⟩
      · rw [hd] at htj; cases htj
      · rw [hd] at htj; cases htj; exact h1
  refine ⟨by rw [Array.size_setIfInBounds]; exact h.sz, fun j hj => ?_, fun j hj hk3 => ?_, ?_, fun j hj q hq => ?_, fun j hj q hq => ?_, fun j => ?_, hgo1, Env.le_trans h.le he, h.glob.mono he, hst, h.rn, h.rres, by rw [put_size]; exact h.size, by rw [put_defers]; exact h.rd.mono he, hafr, fun t ht => ?_, hdnt, fun j oj hj hjl hoj => ?_, h.dis, fun j p hp => ?_⟩
  · rcases (lset hlt).1 hj with rfl | hj
    · exact bits_more.2 (.inr rfl)
    · exact bits_more.2 (.inl (h.lis j hj))
  · rcases bits_more.1 hj with hj | rfl
    · exact (lset hlt).2 (.inr (h.ch j hj hk3))
    · exact (lset hlt).2 (.inl rfl)
  · rw [show Nat.beq (kindAt ops.toList i) 3 = true from beq_yes hki] at r5
    exact r5
  · rcases (lset hlt).1 hj with rfl | hj
    · exact (lset hlt).2 (.inr (ready_bef S h.lcl ho hr hq))
    · exact (lset hlt).2 (.inr (h.lcl j hj q hq))
  · rcases bits_more.1 hj with hj | rfl
    · exact bits_more.2 (.inl (h.dcl j hj q hq))
    · exact bits_more.2 (.inl (inMask_bit r3 hq))
  · rw [List.mem_cons, bits_more, h.dl]
    exact ⟨fun hh => hh.symm, fun hh => hh.symm⟩
  · by_cases hdst : o.dst = some t
    · refine ⟨v, ⟨fun j oj hoj htj _ => ?_, fun hn => absurd ((lset hlt).2 (.inl rfl)) (hn i o ho hdst)⟩, ?_⟩
      · rw [S.dst j i oj o t hoj ho htj hdst, upd_same]
      · rw [hdst, put_same (by rw [h.size]; exact hdnt i o t (bits_more.2 (.inr rfl)) ho hdst)]
        exact hu
    · obtain ⟨x, hx, hv⟩ := h.cur t ht
      refine ⟨x, (hx.more hil).conv fun j oj hoj htj => ⟨fun hl => (lset hlt).2 (.inr hl), fun hl => ?_⟩, by rw [put_get hdst]; exact hv.mono he⟩
      rcases (lset hlt).1 hl with rfl | hl
      · rw [ho] at hoj; cases hoj; exact absurd htj hdst
      · exact hl
  · have hji : j ≠ i := fun eq => by
      rw [(lset hlt).2 (.inl eq)] at hjl; cases hjl
    have hjd : Nat.testBit d j = true := (bits_more.1 hj).resolve_right hji
    have hjl' : listed.getD j false = false := by
      cases hq : listed.getD j false with
      | false => rfl
      | true => rw [(lset hlt).2 (.inr hq)] at hjl; cases hjl
    obtain ⟨aj, h1, h2⟩ := h.pend j oj hjd hjl' hoj
    have hm1 : ∀ t ∈ looks ops.toList oj, t < top → Mixed ops (upd val i v) a0 (fun q => bef ms q j = true) t (T.get und aj t) := fun t htl htt => (h1 t htl htt).more fun hb => by
      have := h.dcl j hjd i hb
      rw [r2] at this; cases this
    refine ⟨aj, hm1, ?_⟩
    rw [upd_other hji]
    cases h2 with
    | skip h1 h2 => exact .skip h1 h2
    | plain h1 h2 => exact .plain h1 h2
    | alloc h1 h2 p h3 B h4 h5 => exact .alloc h1 h2 p h3 B h4 h5
    | load hw hgy hk1 hld =>
      refine .load hw hgy hk1 fun t x hop K => ?_
      have hagr : ∀ t ∈ looks ops.toList oj, t < top → T.get und aj t = T.get und a' t := fun t htl htt =>
        (hm1 t htl htt).same (hafr t htt) fun q oq hoq htq => ⟨fun hb => bits_more.2 (.inl (h.dcl j hjd q hb)), fun _ => S.look1 j oj t q oq hoj htl hoq htq hk1⟩
      have hnb : Nat.testBit (nth ms i) j = false := by
        cases hb : Nat.testBit (nth ms i) j with
        | false => rfl
        | true =>
          have := ready_bef S h.lcl ho hr (q := j) hb
          rw [hjl'] at this; cases this
      obtain ⟨K0, hK0⟩ := hgo2 j (again_mem doneL ((h.dl j).2 hjd) (by rw [kindAt_eq hoj]; exact hk1) hnb)
      have hgy' : GuardYes ops oj a' := by
        rcases hgy with hg | ⟨g, w, gd, hg, hgd, htop, hv⟩
        · exact .inl hg
        · exact .inr ⟨g, w, gd, hg, hgd, htop, by rw [← hagr gd (look_guard hg hgd) htop]; exact hv⟩
      obtain ⟨dj, hdj, hall⟩ := again1_yes hoj hop hK0 hgy'
      rw [opd_congr (a' := a') fun q hx hq => hagr q (look_opd hop hx) hq, hall K]
      have := (hafr dj (S.dtop j oj dj hoj hdj)).1 j oj hoj hdj hj
      rw [this, upd_other hji]
  · obtain ⟨g1, g2, g3⟩ := h.fresh j p hp
    exact ⟨bits_more.2 (.inl g1), g2, g3⟩
end
end
end Go.Proofs.YtdoddlkppkegnaaGreatDoor.Ev
