/- Regions that draw their order: the whole region; a call, whole. No conditions. -/
import Derived.Test.YtdoddlkppkegnaaGreatDoorEvO
namespace Go.Proofs.YtdoddlkppkegnaaGreatDoor.Ev
open Go Go.RowKit
noncomputable section
set_option linter.unusedSimpArgs false
set_option linter.unusedVariables false
section
variable {sy : Nat → Value} {P : Program} {G : Nat} {ops : Array Oper} {ms : List Nat}
variable {N0 : Par} {W0 : World} {nt : Nat} {call : CallK} {L : Nat} {N : KN} {X : KX} {a0 : T AV} {e0 : Env} {listed : Array Bool} {act : Act} {W : World} {val : Nat → AV} {pn : Nat → Option (Nat)} {R : Par} {e : Env} {a : T AV} {ds : List Dfr} {m : M} {nx d : Nat} {last : Option Nat} {doneL rest : List Nat}
/-- What may come up and was not run yet is the one that the evaluator waits for. -/
theorem DS.only (S : Stat ops ms) {i : Nat} {o : Oper} (h : DS P sy G N0 W0 nt ops ms call L N X a0 e0 listed act W val pn R e a ds m nx d last doneL (i :: rest)) (ho : ops[i]? = some o) (hk : kindOf o.op = 3) {j : Nat} (hj : j ∈ i :: rest) (hr : j ∈ Region.ready .any ops listed) : j = i := by
  rcases List.mem_cons.1 hj with rfl | hj
  · rfl
  · exfalso
    obtain ⟨_, oj, hoj, _⟩ := mem_ready.1 hr
    obtain ⟨r1, r2, r3, r4, r5⟩ := row_cons h.row
    rw [show Nat.beq (kindAt ops.toList i) 3 = true from beq_yes (by rw [kindAt_eq ho]; exact hk)] at r5
    rcases row_blocked _ _ _ r5 j hj with hb | ⟨c, hc, hb⟩
    · have := h.lis i (ready_bef S h.lcl hoj hr hb)
      rw [r2] at this; cases this
    · have h1 := h.lis c (ready_bef S h.lcl hoj hr hb)
      have h2 := row_new _ _ _ h.row c (List.mem_cons_of_mem _ hc)
      rw [h1] at h2; cases h2
/-- The frame that the evaluator holds is what a call or a store looks at. -/
theorem DS.lookHead (S : Stat ops ms) {i : Nat} {o : Oper} (h : DS P sy G N0 W0 nt ops ms call L N X a0 e0 listed act W val pn R e a ds m nx d last doneL (i :: rest)) (ho : ops[i]? = some o) (hr : i ∈ Region.ready .any ops listed) : LookOk sy ops e a act o := by
  intro t ht htop
  obtain ⟨r1, r2, _⟩ := row_cons h.row
  obtain ⟨x, hx, hv⟩ := h.cur t htop
  have := (h.afr t htop).same hx fun q oq hoq htq => ⟨fun hd => ?_, fun hl => h.lis q hl⟩
  · rw [this]; exact hv
  · rcases S.look i o t q oq ho ht hoq htq with rfl | hb | ⟨hb, _⟩
    · rw [r2] at hd; cases hd
    · exact ready_bef S h.lcl ho hr hb
    · have := h.dcl q hd i hb
      rw [r2] at this; cases this
/-- A call or a store comes up. -/
theorem DS.head (S : Stat ops ms) (hcall : ∀ N0 W0, CallOk P sy N0 W0 G call) {i : Nat} {o : Oper} (h : DS P sy G N0 W0 nt ops ms call L N X a0 e0 listed act W val pn R e a ds m nx d last doneL (i :: rest)) (ho : ops[i]? = some o) (hk : kindOf o.op = 3) (hr : i ∈ Region.ready .any ops listed)
    {K : Act → World → Prop}
    (hK : ∀ act' W' val' e' a' m' nx', DS P sy G N0 W0 nt ops ms call L N X a0 e0 (listed.setIfInBounds i true) act' W' val' pn R e' a' ds m' nx' (Nat.lor d (Nat.pow 2 i)) (some i) (i :: doneL) rest → K act' W') : wpOp P ops (Post sy N0 W0 e0 nt N X) i K act W := by
  have hl := h.lookHead S ho hr
  have h1 : (cPlan P G nt ops ((i, againOf ops.toList (nth ms i) doneL) :: stepsOf ops.toList ms (i :: doneL) rest)).f call L a ds m nx N X = true := by
    have := h.go
    unfold stepsOf at this
    rw [show Nat.beq (kindAt ops.toList i) 3 = true from beq_yes (by rw [kindAt_eq ho]; exact hk)] at this
    exact this
  unfold cPlan at h1
  simp only [ho] at h1
  unfold wpOp
  rw [ho]
  simp only
  rcases cOne_split sy h1 with ⟨h3, hw⟩ | ⟨h3, hw, _⟩
  · rw [if_neg (by rw [hw e act hl]; simp)]
    obtain ⟨a', h4, h5⟩ := put_form' h3
    exact hK _ _ _ _ _ _ _ (h.step S ho hk hr (v := und) (u := undef) (Env.le_refl e) h.st RV.und h5 h4)
  · rw [if_pos (hw e act hl)]
    rw [cDo_plain (S.nodef i o ho)] at h3
    refine .inl (upon_wp ?_)
    refine op_ok (P := P) (G := G) (sy := sy) (N0 := R) (W0 := W0) o.op call hcall a m nx _ _ h3 e act W h.glob h.st hl.opsOk (fun v W => K (act.put o.dst v) W) (fun cs W => Post sy N0 W0 e0 nt N X (.panic (raw cs)) act W) ?_ ?_ o rfl
    · intro e' v v' m' nx' W' he hst' hv hKt
      obtain ⟨a', h4, h5⟩ := put_form' hKt
      exact hK _ _ _ _ _ _ _ (h.step S ho hk hr he hst' hv h5 h4)
    · intro e' c cs m' nx' W' he hst' hc hKt
      obtain ⟨a', h4, h5⟩ := junk_yes ops.toList a (fun o' ho' t ht => by
        obtain ⟨q, hq⟩ := List.getElem?_of_mem ho'
        exact S.dtop q o' t (by simpa using hq) ht) hKt
      refine ⟨e', c, cs, a', ds, m', nx', Env.le_trans h.le he, hst'.par h.rn.symm h.rres, ⟨h.size, fun t ht => ?_⟩, h.rd.mono he, rfl, hc, h4⟩
      rcases h5 t ht with h6 | ⟨h6, h7⟩
      · rw [h6]; exact RV.junk _
      · obtain ⟨x, hx, hv⟩ := h.cur t ht
        have hno : ∀ (q : Nat) (oq : Oper), ops[q]? = some oq → oq.dst ≠ some t := fun q oq hoq => h6 oq (List.mem_of_getElem? (by simpa using hoq : ops.toList[q]? = some oq))
        have e1 : x = T.get und a0 t := hx.2 fun q oq hoq htq => absurd htq (hno q oq hoq)
        have e2 : T.get und a t = T.get und a0 t := (h.afr t ht).2 fun q oq hoq htq => absurd htq (hno q oq hoq)
        rw [h7, e2, ← e1]
        exact hv.mono he
/-- All has come up. -/
theorem DS.fin (S : Stat ops ms) {row : List Nat} (hrow : rowOk ops.toList ms 0 none row = true) (h : DS P sy G N0 W0 nt ops ms call L N X a0 e0 listed act W val pn R e a ds m nx d last doneL rest) (hr : Region.ready .any ops listed = []) : Post sy N0 W0 e0 nt N X .normal act W := by
  have hall : ∀ i, i < ops.size → listed.getD i false = true := fun i hi => by
    have h1 := row_listed S hr h.sz row 0 none hrow (fun i hi => by simp at hi)
    rcases row_all row 0 none hrow i (by simpa using hi) with h2 | h2
    · simp at h2
    · exact h1 i h2
  have hnil : rest = [] := by
    cases rest with
    | nil => rfl
    | cons i l =>
      obtain ⟨r1, r2, _⟩ := row_cons h.row
      have := h.lis i (hall i (by simpa using r1))
      rw [r2] at this; cases this
  subst hnil
  have hgo : N a ds m nx = true := h.go
  refine ⟨e, a, ds, m, nx, h.le, h.st.par h.rn.symm h.rres, ⟨h.size, fun t ht => ?_⟩, h.rd, hgo⟩
  obtain ⟨x, hx, hv⟩ := h.cur t ht
  rw [(h.afr t ht).same hx fun q oq hoq htq => ⟨fun _ => hall q (Array.getElem?_eq_some_iff.1 hoq).1, fun hl => h.lis q hl⟩]
  exact hv
/-- Whatever order is drawn. -/
theorem DS.all (S : Stat ops ms) (hcall : ∀ N0 W0, CallOk P sy N0 W0 G call) {row : List Nat} (hrow : rowOk ops.toList ms 0 none row = true) : ∀ (fuel : Nat) (un : List Nat) {listed : Array Bool} {act : Act} {W : World} {val : Nat → AV} {pn : Nat → Option (Nat)} {R : Par} {e : Env} {a : T AV} {ds : List Dfr} {m : M} {nx d : Nat} {last : Option Nat} {doneL rest : List Nat},
    DS P sy G N0 W0 nt ops ms call L N X a0 e0 listed act W val pn R e a ds m nx d last doneL rest → un.length ≤ fuel → (∀ i, i < ops.size → listed.getD i false = false → i ∈ un) → wpAny P .any ops (Post sy N0 W0 e0 nt N X) fuel listed act W := by
  intro fuel
  induction fuel with
  | zero =>
    intro un listed act W val pn R e a ds m nx d last doneL rest h hf hu
    have hr : Region.ready .any ops listed = [] := by
      cases hq : Region.ready .any ops listed with
      | nil => rfl
      | cons i l =>
        have hi : i ∈ Region.ready .any ops listed := by rw [hq]; exact List.mem_cons_self
        obtain ⟨h1, h2⟩ := ready_not h.sz hi
        have := hu i (by rw [← h.sz]; exact h2) h1
        have h0 : un = [] := List.length_eq_zero_iff.1 (by omega)
        rw [h0] at this; cases this
    exact ⟨hr, h.fin S hrow hr⟩
  | succ fuel ih =>
    intro un listed act W val pn R e a ds m nx d last doneL rest h hf hu
    refine ⟨fun hr => h.fin S hrow hr, fun i hi => ?_⟩
    obtain ⟨h1, h2⟩ := ready_not h.sz hi
    have hmem := hu i (by rw [← h.sz]; exact h2) h1
    have hlen : (un.erase i).length ≤ fuel := by
      rw [List.length_erase_of_mem hmem]; omega
    have hcov : ∀ j, j < ops.size → (listed.setIfInBounds i true).getD j false = false → j ∈ un.erase i := fun j hj hjl => by
      have hji : j ≠ i := fun eq => by
        rw [(lset h2).2 (.inl eq)] at hjl; cases hjl
      have hjl' : listed.getD j false = false := by
        cases hq : listed.getD j false with
        | false => rfl
        | true => rw [(lset h2).2 (.inr hq)] at hjl; cases hjl
      exact (List.mem_erase_of_ne hji).2 (hu j hj hjl')
    obtain ⟨val', pn', R', a', m', nx', d', doneL', rest', h', hend⟩ := h.advance S hcall
    obtain ⟨_, o, ho, _⟩ := mem_ready.1 hi
    cases hd : Nat.testBit d' i with
    | true => exact h'.take S hcall ho hd hi fun act' W' pn'' R'' e'' hn => ih _ hn hlen hcov
    | false =>
      have hin : i ∈ rest' := by
        rcases row_all rest' _ _ h'.row i (by simpa using (Array.getElem?_eq_some_iff.1 ho).1) with h3 | h3
        · rw [hd] at h3; cases h3
        · exact h3
      rcases hend with rfl | ⟨q, l, oq, rfl, hoq, hkq⟩
      · cases hin
      · have := h'.only S hoq hkq hin hi
        subst this
        exact h'.head S hcall hoq hkq hi fun act' W' val'' e'' a'' m'' nx'' hn => ih _ hn hlen hcov
/-- A region that draws its order. -/
theorem drawn_ok : ∀ (N0 : Par) (W0 : World) (nt id : Nat) (ops : Array Oper), CodeOk P sy N0 W0 G nt (cDraw P G nt ops) (.region id ops true) := by
  intro N0 W0 nt id ops call hcall L a ds m nx N X h e act W hG hst hf hd
  unfold cDraw at h
  split at h
  · rename_i l hfol hpl
    obtain ⟨ms, row, S, hrow, rfl⟩ := plan_stat hpl
    refine wp_region_any hfol ?_
    have h0 : DS P sy G N0 W0 nt ops ms call L N X a e (Array.replicate ops.size false) act W.drew (fun _ => und) (fun _ => none) N0 e a ds m nx 0 none [] row := by
      have hl0 : ∀ i, ¬ (Array.replicate ops.size false).getD i false = true := fun i hi => by
        rw [Array.getD_eq_getD_getElem?, Array.getElem?_replicate] at hi
        split at hi <;> simp at hi
      have hd0 : ∀ i, ¬ Nat.testBit 0 i = true := fun i hi => by simp at hi
      exact ⟨by simp, fun i hi => absurd hi (hl0 i), fun i hi => absurd hi (hd0 i), hrow, fun j hj => absurd hj (hl0 j), fun j hj => absurd hj (hd0 j), fun i => ⟨(fun hi => by cases hi), fun hi => absurd hi (hd0 i)⟩, h, Env.le_refl e, hG, hst.drew, rfl, fun _ _ hq => hq, hf.size, hd,
        fun t ht => ⟨fun i o _ _ hi => absurd hi (hd0 i), fun _ => rfl⟩, fun t ht => ⟨T.get und a t, ⟨fun i o _ _ hi => absurd hi (hl0 i), fun _ => rfl⟩, hf.get t ht⟩, fun i o t hi => absurd hi (hd0 i), fun j o hj => absurd hj (hd0 j), (fun j j' p hp => by cases hp), (fun j p hp => by cases hp)⟩
    exact h0.all S hcall hrow ops.size (List.range ops.size) (by simp) (fun i hi _ => by simpa using hi)
  · cases h
/-- A call, whole. -/
theorem run_ok {pr : Prims} (hp : PrimOk P sy G pr) : ∀ (L n : Nat) (N0 : Par) (W0 : World), CallOk P sy N0 W0 G (evC P pr G L n) := fun L n N0 W0 => evC_ok drawn_ok hp L n N0 W0
end
end
end Go.Proofs.YtdoddlkppkegnaaGreatDoor.Ev
