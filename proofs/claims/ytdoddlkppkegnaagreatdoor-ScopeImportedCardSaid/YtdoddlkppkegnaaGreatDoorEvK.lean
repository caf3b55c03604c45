/- Regions that draw their order: the evaluator runs ahead. No conditions. -/
import Derived.Test.YtdoddlkppkegnaaGreatDoorEvJ
namespace Go.Proofs.YtdoddlkppkegnaaGreatDoor.Ev
open Go Go.RowKit
noncomputable section
set_option linter.unusedSimpArgs false
set_option linter.unusedVariables false
section
variable {sy : Nat → Value} {P : Program} {G : Nat} {ops : Array Oper} {ms : List Nat}
variable {N0 : Par} {W0 : World} {nt : Nat} {call : CallK} {L : Nat} {N : KN} {X : KX} {a0 : T AV} {e0 : Env} {listed : Array Bool} {act : Act} {W : World} {val : Nat → AV} {pn : Nat → Option (Nat)} {R : Par} {e : Env} {a : T AV} {ds : List Dfr} {m : M} {nx d : Nat} {last : Option Nat} {doneL rest : List Nat}
theorem cDo_plain {o : Oper} (hd : ∀ c, o.op ≠ .defer c) : (cDo P G nt o).f call L a ds m nx N X = (cOp P G o.op).f call a m nx (fun v m nx => (cPut nt o.dst).f a v fun a => N a ds m nx) (fun c m nx => X (.pan c) a ds m nx) := by
  unfold cDo
  split
  · rename_i h
    exact absurd h (hd _)
  · rfl
theorem put_form' {dst : Option Tmp} {v : AV} {K : T AV → Bool} (h : (cPut nt dst).f a v K = true) : ∃ a', K a' = true ∧ ((dst = none ∧ a' = a) ∨ ∃ t : Nat, dst = some t ∧ t < nt ∧ t < top ∧ a' = T.set und v t a) := by
  rcases put_form h with ⟨h1, h2⟩ | ⟨t, h1, h2, h3, h4⟩
  · exact ⟨_, h2, .inl ⟨h1, rfl⟩⟩
  · exact ⟨_, h4, .inr ⟨t, h1, h2, h3, rfl⟩⟩
variable (sy) in
theorem cOne_split {o : Oper} (h : (cOne P G nt ops o).f call L a ds m nx N X = true) :
    ((cPut nt o.dst).f a und (fun a => N a ds m nx) = true ∧ ∀ e act, LookOk sy ops e a act o → Region.wanted o (yielded ops act.tmps) = false) ∨
    ((cDo P G nt o).f call L a ds m nx N X = true ∧ (∀ e act, LookOk sy ops e a act o → Region.wanted o (yielded ops act.tmps) = true) ∧ GuardYes ops o a) := by
  cases hg : o.guard with
  | none =>
    simp only [cOne, hg, BC.f, undF_eq, infoF_eq, funF_eq] at h
    exact .inr ⟨h, (fun e act _ => by simp [Region.wanted, hg]), .inl hg⟩
  | some jw =>
    obtain ⟨j, w⟩ := jw
    cases hdst : (ops[j]?).bind (·.dst) with
    | none =>
      simp only [cOne, hg, hdst, BC.f, undF_eq, infoF_eq, funF_eq] at h
      exact .inl ⟨h, fun e act _ => by simp [Region.wanted, hg, yielded, hdst]⟩
    | some d =>
      cases hb : Nat.blt d top with
      | false => simp only [cOne, hg, hdst, hb, BC.f, undF_eq, infoF_eq, funF_eq] at h; cases h
      | true =>
        simp only [cOne, hg, hdst, hb, BC.f, undF_eq, infoF_eq, funF_eq] at h
        rw [T.getP_eq] at h
        rcases isIt_sem (sy := sy) h with ⟨h1, h2⟩ | ⟨h1, h2⟩
        · refine .inr ⟨h2, fun e act hl => ?_, .inr ⟨j, w, d, hg, hdst, blt_iff.1 hb, h1⟩⟩
          have hv := hl.guard hg hdst (blt_iff.1 hb)
          rw [h1] at hv
          have hy := yielded_eq (tmps := act.tmps) hdst
          generalize hu : act.tmps.getD d undef = u at hv hy
          cases hv
          simp [Region.wanted, hg, hy, boolOf]
        · refine .inl ⟨h2, fun e act hl => ?_⟩
          have hv := hl.guard hg hdst (blt_iff.1 hb)
          have hy := yielded_eq (tmps := act.tmps) hdst
          have := h1 e _ hv
          simp only [Region.wanted, hg, hy]
          simpa using this
theorem kind_cases (op : Op) : kindOf op = 0 ∨ kindOf op = 1 ∨ kindOf op = 2 ∨ kindOf op = 3 := by
  unfold kindOf
  split <;> simp
theorem kind_load {op : Op} (h : kindOf op = 1) : ∃ t x, op = .load t x := by
  cases op with
  | load t x => exact ⟨t, x, rfl⟩
  | call c =>
    obtain ⟨cal, args, ts⟩ := c
    cases cal with
    | builtin b => cases b <;> cases h
    | _ => cases h
  | _ => cases h
theorem LoadNow.frame {m' : M} {p : Nat} (h0 : m.at p = none) (hm : ∀ q, q ≠ p → m'.at q = m.at q) {o : Oper} {aj : T AV} {v : AV} (h : LoadNow P G o aj m v) : LoadNow P G o aj m' v := by
  intro t x ho K
  have h1 := h t x ho
  rcases Det.opd (α := AV) (G := G) (x := x) (a := aj) (h := fun v K => K v) (fun v => Det.ret v) with ⟨w, hw⟩ | hn
  · have h2 : (cLoad P t).f m w (fun _ => true) = true := (hw (fun w => (cLoad P t).f m w fun _ => true)).symm.trans (h1 fun _ => true)
    have h3 := load_frame h0 hm (K := K) (b := true) h2
    exact (hw (fun w => (cLoad P t).f m' w K)).trans (h3.trans ((hw (fun w => (cLoad P t).f m w K)).symm.trans (h1 K)))
  · exact absurd ((hn fun w => (cLoad P t).f m w fun _ => true).symm.trans (h1 fun _ => true)) (by simp)
open Classical in
/-- The evaluator runs one operation ahead. -/
theorem DS.advance1 (S : Stat ops ms) (hcall : ∀ N0 W0, CallOk P sy N0 W0 G call) {i : Nat} {o : Oper} (h : DS P sy G N0 W0 nt ops ms call L N X a0 e0 listed act W val pn R e a ds m nx d last doneL (i :: rest)) (ho : ops[i]? = some o) (hk : kindOf o.op ≠ 3) :
    ∃ val' pn' R' a' m' nx', DS P sy G N0 W0 nt ops ms call L N X a0 e0 listed act W val' pn' R' e a' ds m' nx' (Nat.lor d (Nat.pow 2 i)) last (i :: doneL) rest := by
  have h1 : (cPlan P G nt ops ((i, []) :: stepsOf ops.toList ms (i :: doneL) rest)).f call L a ds m nx N X = true := by
    have := h.go
    unfold stepsOf at this
    rw [show Nat.beq (kindAt ops.toList i) 3 = false from beq_no (by rw [kindAt_eq ho]; exact hk)] at this
    exact this
  unfold cPlan at h1
  simp only [ho] at h1
  have h2 : (cOne P G nt ops o).f call L a ds m nx (fun a ds m nx => (cPlan P G nt ops (stepsOf ops.toList ms (i :: doneL) rest)).f call L a ds m nx N X) (fun e a ds m nx => (cJunk ops.toList).f a fun a => X e a ds m nx) = true := h1
  rcases cOne_split sy h2 with ⟨h3, hw⟩ | ⟨h3, hw, hgy⟩
  · obtain ⟨a', h4, h5⟩ := put_form' h3
    exact ⟨_, _, _, _, _, _, h.next S ho hk (v := und) (po := none) h4 h5 h.st rfl (fun _ _ h => h) (Nat.le_refl _) (.skip hw rfl) (fun _ _ _ _ h => h) (.inl rfl)⟩
  · rw [cDo_plain (S.nodef i o ho)] at h3
    rcases kind_cases o.op with hk0 | hk1 | hk2 | hk3
    · obtain ⟨g, hg, hdet⟩ := pure_form (P := P) (G := G) o.op hk0
      rw [hg] at h3
      have h3' : g a (fun v => (cPut nt o.dst).f a v fun a => (cPlan P G nt ops (stepsOf ops.toList ms (i :: doneL) rest)).f call L a ds m nx N X) = true := h3
      rcases hdet a with ⟨v, hv⟩ | hn
      · rw [hv] at h3'
        obtain ⟨a', h4, h5⟩ := put_form' h3'
        refine ⟨_, _, _, _, _, _, h.next S ho hk (v := v) (po := none) h4 h5 h.st rfl (fun _ _ h => h) (Nat.le_refl _) (.plain hw fun m1 nx1 => runs_of hcall fun K KP hK => ?_) (fun _ _ _ _ h => h) (.inl rfl)⟩
        rw [hg]
        show g a (fun v => K v m1 nx1) = true
        rw [hv]
        exact hK
      · rw [hn] at h3'; cases h3'
    · obtain ⟨t, x, hop⟩ := kind_load hk1
      rw [hop] at h3
      have h3' : (cOpd G x).k a (fun v => (cLoad P t).f m v fun v => (cPut nt o.dst).f a v fun a => (cPlan P G nt ops (stepsOf ops.toList ms (i :: doneL) rest)).f call L a ds m nx N X) = true := by
        simp only [cOp, BX.f, undF_eq, infoF_eq, funF_eq] at h3
        exact h3
      have hdet : Det (fun K => (cOpd G x).k a fun v => (cLoad P t).f m v K) := Det.opd fun v => Det.load
      rcases hdet with ⟨v, hv⟩ | hn
      · have h4' := (hv _).symm.trans h3'
        obtain ⟨a', h4, h5⟩ := put_form' h4'
        refine ⟨_, _, _, _, _, _, h.next S ho hk (v := v) (po := none) h4 h5 h.st rfl (fun _ _ h => h) (Nat.le_refl _) (.load hw hgy hk1 fun t' x' hop' K => ?_) (fun _ _ _ _ h => h) (.inl rfl)⟩
        rw [hop] at hop'
        cases hop'
        exact hv K
      · have := (hn _).symm.trans h3'
        cases this
    · rcases raw_all (P := P) (sy := sy) (G := G) o.op hk2 with ⟨g, hg, hraw, hdet⟩ | hno
      · rw [hg] at h3
        have h3' : g a (fun c n w => newK m nx c n fun p m nx => (cPut nt o.dst).f a (w p) fun a => (cPlan P G nt ops (stepsOf ops.toList ms (i :: doneL) rest)).f call L a ds m nx N X) = true := h3
        rcases hdet a with ⟨c, n, w, hv⟩ | hn
        · rw [hv] at h3'
          obtain ⟨hnx, hn, hat, h4'⟩ := newF_yes h3'
          obtain ⟨a', h4, h5⟩ := put_form' h4'
          have hres : ∀ B, R.res nx = some B → False := fun B hB => by
            obtain ⟨_, g2, _⟩ := h.st.rm.res _ _ hB
            rw [hat] at g2; cases g2
          have hRr : ∀ q B, R.res q = some B → (if q = nx then some (⟨c, n, 0, false⟩ : AB) else R.res q) = some B := fun q B hq => by
            rw [if_neg (fun eq => hres B (by rw [← eq]; exact hq))]; exact hq
          refine ⟨_, _, _, _, _, _, h.next S ho hk (v := w nx) (po := some nx) (R' := ⟨R.n, fun q => if q = nx then some ⟨c, n, 0, false⟩ else R.res q⟩) h4 h5 ⟨h.st.rm.reserve hnx _, h.st.be, h.st.hN⟩ rfl hRr (Nat.le_succ _) ?_ ?_ (.inr ⟨rfl, ⟨_, if_pos rfl⟩, ?_, hnx⟩)⟩
          · refine .alloc hw hk2 nx rfl ⟨c, n, 0, false⟩ (if_pos rfl) fun e1 act1 hG1 hops1 => ?_
            obtain ⟨c', n', w', k1, cs, el, wv, k2, k3, k4, k5⟩ := hraw a (fun c' n' w' => decide (c' = c ∧ n' = n ∧ w' = w)) (by rw [hv]; simp) e1 act1 hG1 hops1
            obtain ⟨rfl, rfl, rfl⟩ := of_decide_eq_true k1
            exact ⟨cs, el, wv, k2, hn, k3 hn, fun e2 r hr => k4 e2 nx r hr, fun W => k5 o W rfl⟩
          · intro oj aj vj pj hp
            cases hp with
            | skip h1 h2 => exact .skip h1 h2
            | plain h1 h2 => exact .plain h1 h2
            | load h1 h2 h3 h4 => exact .load h1 h2 h3 (h4.frame hat fun q hq => M.at_set (Ne.symm hq))
            | alloc h1 h2 p h3 B h4 h5 => exact .alloc h1 h2 p h3 B (hRr p B h4) h5
          · cases hq : N0.res nx with
            | none => rfl
            | some B => exact (hres B (h.rres _ _ hq)).elim
        · rw [hn] at h3'; cases h3'
      · rw [hno] at h3; cases h3
    · exact absurd hk3 hk
/-- The evaluator runs ahead until it must wait. -/
theorem DS.advance (S : Stat ops ms) (hcall : ∀ N0 W0, CallOk P sy N0 W0 G call) : ∀ (rest : List Nat) {val : Nat → AV} {pn : Nat → Option (Nat)} {R : Par} {a : T AV} {m : M} {nx d : Nat} {doneL : List Nat}, DS P sy G N0 W0 nt ops ms call L N X a0 e0 listed act W val pn R e a ds m nx d last doneL rest →
    ∃ val' pn' R' a' m' nx' d' doneL' rest', DS P sy G N0 W0 nt ops ms call L N X a0 e0 listed act W val' pn' R' e a' ds m' nx' d' last doneL' rest' ∧ (rest' = [] ∨ ∃ h l o, rest' = h :: l ∧ ops[h]? = some o ∧ kindOf o.op = 3)
  | [], val, pn, R, a, m, nx, d, doneL, h => ⟨_, _, _, _, _, _, _, _, _, h, .inl rfl⟩
  | i :: l, val, pn, R, a, m, nx, d, doneL, h => by
    obtain ⟨r1, _⟩ := row_cons h.row
    have hlt : i < ops.size := by simpa using r1
    have ho : ops[i]? = some ops[i] := Array.getElem?_eq_getElem hlt
    by_cases hk : kindOf ops[i].op = 3
    · exact ⟨_, _, _, _, _, _, _, _, _, h, .inr ⟨i, l, _, rfl, ho, hk⟩⟩
    · obtain ⟨_, _, _, _, _, _, h'⟩ := h.advance1 S hcall ho hk
      exact DS.advance S hcall l h'
end
end
end Go.Proofs.YtdoddlkppkegnaaGreatDoor.Ev
