/- Regions that draw their order: the evaluator's next step. No conditions. -/
import Derived.Test.YtdoddlkppkegnaaGreatDoorEvW
namespace Go.Proofs.YtdoddlkppkegnaaGreatDoor.Ev
open Go Go.RowKit
noncomputable section
set_option linter.unusedSimpArgs false
set_option linter.unusedVariables false
section
variable {sy : Nat → Value} {P : Program} {G : Nat} {ops : Array Oper} {ms : List Nat}
theorem isIt_sem {w : Bool} {v : AV} {Y N : Bool} (h : isIt w v Y N = true) : (v = .bool w ∧ Y = true) ∨ ((∀ (e : Env) (u : Value), RV sy e v u → boolOf u ≠ some w) ∧ N = true) := by
  cases v with
  | bool b => cases b <;> cases w <;> first | exact .inl ⟨rfl, h⟩ | exact .inr ⟨(fun e u hu => by cases hu; simp [boolOf]), h⟩
  | sym i => cases h
  | eol => cases h
  | nil k => exact .inr ⟨(fun e u hu => by cases hu <;> simp [boolOf]), h⟩
  | _ => exact .inr ⟨(fun e u hu => by cases hu <;> simp [boolOf]), h⟩
theorem put_form {nt : Nat} {dst : Option Tmp} {a : T AV} {v : AV} {K : T AV → Bool} (h : (cPut nt dst).f a v K = true) : (dst = none ∧ K a = true) ∨ ∃ d : Nat, dst = some d ∧ d < nt ∧ d < top ∧ K (T.set und v d a) = true := by
  cases dst with
  | none => exact .inl ⟨rfl, h⟩
  | some d =>
    cases hb : (Nat.blt d nt && Nat.blt d top) with
    | false => simp only [cPut, hb, BP.f] at h; cases h
    | true =>
      simp only [cPut, hb, BP.f] at h
      simp only [Bool.and_eq_true] at hb
      rw [T.setP_eq] at h
      exact .inr ⟨d, rfl, blt_iff.1 hb.1, blt_iff.1 hb.2, h⟩
theorem RM.reserve {R : Par} {e : Env} {m : M} {nx : Nat} {W : World} (h : RM sy R e m nx W) (hn : nx ≤ top) (B : AB) : RM sy ⟨R.n, fun q => if q = nx then some B else R.res q⟩ e (T.set none (some B) nx m) (nx + 1) W := by
  have h0 := h.fresh hn
  have ne : ∀ q x, e q = some x → q ≠ nx := fun q x hq he => by rw [he, h0] at hq; cases hq
  refine ⟨fun q C r base sz h1 h2 => ?_, fun q q' C C' x x' h1 h2 h3 h4 h5 => ?_, fun q x hq => ?_, h.lt, by omega, fun q C hq => ?_⟩
  · rw [M.at_set (Ne.symm (ne q _ h2))] at h1
    have hH := h.blk q C r base sz h1 h2
    exact ⟨hH.n, hH.top, hH.there, hH.cells, hH.own, hH.free⟩
  · rw [M.at_set (Ne.symm (ne q _ h3))] at h1
    rw [M.at_set (Ne.symm (ne q' _ h4))] at h2
    exact h.inj q q' C C' x x' h1 h2 h3 h4 h5
  · obtain ⟨k, h1, h2⟩ := h.nm q x hq
    exact ⟨k, by omega, h2⟩
  · by_cases hqp : q = nx
    · subst hqp
      simp only [if_true] at hq
      cases hq
      exact ⟨h0, M.at_same, q, by omega, rfl⟩
    · simp only [if_neg hqp] at hq
      obtain ⟨g1, g2, k, g3, g4⟩ := h.res q C hq
      exact ⟨g1, by rw [M.at_set (Ne.symm hqp)]; exact g2, k, by omega, g4⟩
theorem blkK_eq {m m' : M} {q : Nat} {K : T AV → Nat → Nat → Bool → Bool} (h : m'.at q = m.at q) : blkK m' q K = blkK m q K := by
  unfold blkK
  rw [T.getP_eq, T.getP_eq]
  have h' : T.get none m' q = T.get none m q := h
  rw [h']
theorem blkK_none {m : M} {q : Nat} {K : T AV → Nat → Nat → Bool → Bool} (h : m.at q = none) : blkK m q K = false := by
  unfold blkK
  rw [T.getP_eq]
  have h' : T.get none m q = none := h
  rw [h']
/-- A load that yields something yields it behind a new block too. -/
theorem load_frame {m m' : M} {p : Nat} (h0 : m.at p = none) (hm : ∀ q, q ≠ p → m'.at q = m.at q) {t : TypeId} {w : AV} {K : AV → Bool} {b : Bool} (h : (cLoad P t).f m w (fun _ => true) = true) : (cLoad P t).f m' w K = (cLoad P t).f m w K := by
  unfold cLoad at h ⊢
  split at h
  · obtain ⟨q, o, rfl, h1⟩ := asRef_yes h
    by_cases hq : q = p
    · subst hq
      have : blkK m q _ = true := h1
      rw [blkK_none h0] at this; cases this
    · show readK m' q o _ _ = readK m q o _ _
      unfold readK
      exact blkK_eq (hm q hq)
  · obtain ⟨q, o, rfl, h1⟩ := asRef_yes h
    by_cases hq : q = p
    · subst hq
      have : blkK m q _ = true := h1
      rw [blkK_none h0] at this; cases this
    · show read1K m' q o _ = read1K m q o _
      unfold read1K
      exact blkK_eq (hm q hq)
  · cases h
/-- The state of a region that draws its order: what the evaluator has run (the bits of d), what has come up (listed). -/
structure DS (P : Program) (sy : Nat → Value) (G : Nat) (N0 : Par) (W0 : World) (nt : Nat) (ops : Array Oper) (ms : List Nat) (call : CallK) (L : Nat) (N : KN) (X : KX) (a0 : T AV) (e0 : Env) (listed : Array Bool) (act : Act) (W : World)
    (val : Nat → AV) (pn : Nat → Option (Nat)) (R : Par) (e : Env) (a : T AV) (ds : List Dfr) (m : M) (nx : Nat) (d : Nat) (last : Option Nat) (doneL rest : List Nat) : Prop where
  sz : listed.size = ops.size
  lis : ∀ i, listed.getD i false = true → Nat.testBit d i = true
  ch : ∀ i, Nat.testBit d i = true → kindAt ops.toList i = 3 → listed.getD i false = true
  row : rowOk ops.toList ms d last rest = true
  lcl : ∀ j, listed.getD j false = true → ∀ i, bef ms i j = true → listed.getD i false = true
  dcl : ∀ j, Nat.testBit d j = true → ∀ i, bef ms i j = true → Nat.testBit d i = true
  dl : ∀ i, i ∈ doneL ↔ Nat.testBit d i = true
  go : (cPlan P G nt ops (stepsOf ops.toList ms doneL rest)).f call L a ds m nx N X = true
  le : e0.le e
  glob : GlobOk G e
  st : St sy R W0 e m nx W
  rn : R.n = N0.n
  rres : ∀ q B, N0.res q = some B → R.res q = some B
  size : act.tmps.size = nt
  rd : RD sy e ds act.defers
  afr : ∀ t, t < top → Mixed ops val a0 (fun i => Nat.testBit d i = true) t (T.get und a t)
  cur : ∀ t, t < top → ∃ x, Mixed ops val a0 (fun i => listed.getD i false = true) t x ∧ RV sy e x (act.tmps.getD t undef)
  dnt : ∀ (i : Nat) (o : Oper) (t : Nat), Nat.testBit d i = true → ops[i]? = some o → o.dst = some t → t < nt
  pend : ∀ (j : Nat) (o : Oper), Nat.testBit d j = true → listed.getD j false = false → ops[j]? = some o → ∃ aj, (∀ t ∈ looks ops.toList o, t < top → Mixed ops val a0 (fun i => bef ms i j = true) t (T.get und aj t)) ∧ Pd P sy G ops o aj (val j) (pn j) m R
  dis : ∀ j j' p, pn j = some p → pn j' = some p → j = j'
  fresh : ∀ j p, pn j = some p → Nat.testBit d j = true ∧ N0.res p = none ∧ ∃ B, R.res p = some B
variable {N0 : Par} {W0 : World} {nt : Nat} {call : CallK} {L : Nat} {N : KN} {X : KX} {a0 : T AV} {e0 : Env} {listed : Array Bool} {act : Act} {W : World} {val : Nat → AV} {pn : Nat → Option (Nat)} {R : Par} {e : Env} {a : T AV} {ds : List Dfr} {m : M} {nx d : Nat} {last : Option Nat} {doneL rest : List Nat}
theorem kindAt_eq {i : Nat} {o : Oper} (h : ops[i]? = some o) : kindAt ops.toList i = kindOf o.op := by
  unfold kindAt
  rw [Array.getElem?_toList, h]
theorem bits_more {i j : Nat} : Nat.testBit (Nat.lor d (Nat.pow 2 i)) j = true ↔ Nat.testBit d j = true ∨ j = i := by
  rw [lor_bit, pow_bit]
  simp only [Bool.or_eq_true, decide_eq_true_eq]
  exact ⟨fun h => h.imp id Eq.symm, fun h => h.imp id Eq.symm⟩
/-- The evaluator has run one operation more; none has come up. -/
theorem DS.next (S : Stat ops ms) {i : Nat} {o : Oper} (h : DS P sy G N0 W0 nt ops ms call L N X a0 e0 listed act W val pn R e a ds m nx d last doneL (i :: rest)) (ho : ops[i]? = some o) (hk : kindOf o.op ≠ 3) {v : AV} {a' : T AV} {m' : M} {nx' : Nat} {R' : Par} {po : Option (Nat)}
    (hgo : (cPlan P G nt ops (stepsOf ops.toList ms (i :: doneL) rest)).f call L a' ds m' nx' N X = true) (hput : (o.dst = none ∧ a' = a) ∨ ∃ t : Nat, o.dst = some t ∧ t < nt ∧ t < top ∧ a' = T.set und v t a)
    (hst : St sy R' W0 e m' nx' W) (hRn : R'.n = R.n) (hRr : ∀ q B, R.res q = some B → R'.res q = some B) (hnx : nx ≤ nx') (hpd : Pd P sy G ops o a v po m' R') (hpds : ∀ oj aj vj pj, Pd P sy G ops oj aj vj pj m R → Pd P sy G ops oj aj vj pj m' R')
    (hpo : po = none ∨ (po = some nx ∧ (∃ B, R'.res nx = some B) ∧ N0.res nx = none ∧ nx ≤ top)) :
    DS P sy G N0 W0 nt ops ms call L N X a0 e0 listed act W (upd val i v) (upd pn i po) R' e a' ds m' nx' (Nat.lor d (Nat.pow 2 i)) last (i :: doneL) rest := by
  obtain ⟨r1, r2, r3, r4, r5⟩ := row_cons h.row
  have hki : ¬ kindAt ops.toList i = 3 := by rw [kindAt_eq ho]; exact hk
  have hil : ¬ listed.getD i false = true := fun hl => by rw [h.lis i hl] at r2; cases r2
  have hid : ∀ j, Nat.testBit d j = true → j ≠ i := fun j hj e => by rw [e, r2] at hj; cases hj
  refine ⟨h.sz, fun j hj => bits_more.2 (.inl (h.lis j hj)), fun j hj hk3 => ?_, ?_, h.lcl, fun j hj q hq => ?_, fun j => ?_, hgo, h.le, h.glob, hst, hRn.trans h.rn, fun q B hq => hRr q B (h.rres q B hq), h.size, h.rd, fun t ht => ?_, fun t ht => ?_, fun j oj t hj hoj htj => ?_, fun j oj hj hjl hoj => ?_, fun j j' p hp hp' => ?_, fun j p hp => ?_⟩
  · rcases bits_more.1 hj with hj | rfl
    · exact h.ch j hj hk3
    · exact absurd hk3 hki
  · rw [show Nat.beq (kindAt ops.toList i) 3 = false from beq_no hki] at r5
    exact r5
  · rcases bits_more.1 hj with hj | rfl
    · exact bits_more.2 (.inl (h.dcl j hj q hq))
    · exact bits_more.2 (.inl (inMask_bit r3 hq))
  · rw [List.mem_cons, bits_more, h.dl]
    exact ⟨fun hh => hh.symm, fun hh => hh.symm⟩
  · have hm := (h.afr t ht).more (v := v) (i := i) (fun hd => by rw [r2] at hd; cases hd)
    rcases hput with ⟨hd, rfl⟩ | ⟨t', hd, h1, h2, rfl⟩
    · refine hm.conv fun j oj hoj htj => ⟨fun hh => bits_more.2 (.inl hh), fun hh => ?_⟩
      rcases bits_more.1 hh with hh | rfl
      · exact hh
      · rw [ho] at hoj; cases hoj; rw [hd] at htj; cases htj
    · by_cases htt : t = t'
      · subst htt
        rw [T.get_set]
        refine ⟨fun j oj hoj htj _ => ?_, fun hn => absurd (bits_more.2 (.inr rfl)) (hn i o ho hd)⟩
        have := S.dst j i oj o t hoj ho htj hd
        rw [this, upd_same]
      · have hne : t' ≠ t := fun eb => htt (bitsOf_inj (by unfold top at h2; omega) (by unfold top at ht; omega) eb).symm
        rw [T.get_set_ne _ _ _ _ _ hne]
        refine hm.conv fun j oj hoj htj => ⟨fun hh => bits_more.2 (.inl hh), fun hh => ?_⟩
        rcases bits_more.1 hh with hh | rfl
        · exact hh
        · rw [ho] at hoj; cases hoj; rw [hd] at htj; cases htj; exact absurd rfl htt
  · obtain ⟨x, hx, hv⟩ := h.cur t ht
    exact ⟨x, hx.more hil, hv⟩
  · rcases bits_more.1 hj with hj | rfl
    · exact h.dnt j oj t hj hoj htj
    · rw [ho] at hoj; cases hoj
      rcases hput with ⟨hd, _⟩ | ⟨t', hd, h1, _, _⟩
      · rw [hd] at htj; cases htj
      · rw [hd] at htj; cases htj; exact h1
  · rcases bits_more.1 hj with hj | rfl
    · obtain ⟨aj, h1, h2⟩ := h.pend j oj hj hjl hoj
      have hji := hid j hj
      refine ⟨aj, fun t htl htt => (h1 t htl htt).more (fun hb => ?_), ?_⟩
      · have := h.dcl j hj i hb
        rw [r2] at this; cases this
      · rw [upd_other hji, upd_other hji]
        exact hpds _ _ _ _ h2
    · rw [ho] at hoj; cases hoj
      refine ⟨a, fun t htl htt => ?_, by rw [upd_same, upd_same]; exact hpd⟩
      have hm := (h.afr t htt).more (v := v) (i := j) (fun hd => by rw [r2] at hd; cases hd)
      refine hm.conv fun q oq hoq htq => ⟨fun hh => ?_, fun hh => inMask_bit r3 hh⟩
      rcases S.look j o t q oq ho htl hoq htq with rfl | hb | ⟨hb, _⟩
      · rw [r2] at hh; cases hh
      · exact hb
      · have := h.dcl q hh j hb
        rw [r2] at this; cases this
  · by_cases hji : j = i <;> by_cases hji' : j' = i
    · rw [hji, hji']
    · subst hji
      rw [upd_same] at hp
      rw [upd_other hji'] at hp'
      rcases hpo with hpo | ⟨hpo, _, _, htop⟩
      · rw [hpo] at hp; cases hp
      · rw [hpo] at hp; cases hp
        obtain ⟨_, _, B, hB⟩ := h.fresh j' _ hp'
        obtain ⟨_, _, k, h3, h4⟩ := h.st.rm.res _ _ hB
        have := bitsOf_inj (by unfold top at htop; omega) (by unfold top at htop; omega) h4
        omega
    · subst hji'
      rw [upd_same] at hp'
      rw [upd_other hji] at hp
      rcases hpo with hpo | ⟨hpo, _, _, htop⟩
      · rw [hpo] at hp'; cases hp'
      · rw [hpo] at hp'; cases hp'
        obtain ⟨_, _, B, hB⟩ := h.fresh j _ hp
        obtain ⟨_, _, k, h3, h4⟩ := h.st.rm.res _ _ hB
        have := bitsOf_inj (by unfold top at htop; omega) (by unfold top at htop; omega) h4
        omega
    · rw [upd_other hji] at hp
      rw [upd_other hji'] at hp'
      exact h.dis j j' p hp hp'
  · by_cases hji : j = i
    · subst hji
      rw [upd_same] at hp
      rcases hpo with hpo | ⟨hpo, hn1, hn2, htop⟩
      · rw [hpo] at hp; cases hp
      · rw [hpo] at hp; cases hp
        exact ⟨bits_more.2 (.inr rfl), hn2, hn1⟩
    · rw [upd_other hji] at hp
      obtain ⟨h1, h2, B, hB⟩ := h.fresh j p hp
      exact ⟨bits_more.2 (.inl h1), h2, B, hRr p B hB⟩
end
end
end Go.Proofs.YtdoddlkppkegnaaGreatDoor.Ev
