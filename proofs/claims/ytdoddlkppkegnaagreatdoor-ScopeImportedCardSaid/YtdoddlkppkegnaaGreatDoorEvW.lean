/- Regions that draw their order: the evaluator runs ahead of the model's machine, never behind it. No conditions. -/
import Derived.Test.YtdoddlkppkegnaaGreatDoorEvV
namespace Go.Proofs.YtdoddlkppkegnaaGreatDoor.Ev
open Go Go.RowKit
noncomputable section
set_option linter.unusedSimpArgs false
set_option linter.unusedVariables false
/-- What a temporary holds when the operations in D have come up. -/
def Mixed (ops : Array Oper) (val : Nat → AV) (a0 : T AV) (D : Nat → Prop) (t : Nat) (x : AV) : Prop :=
  (∀ (i : Nat) (o : Oper), ops[i]? = some o → o.dst = some t → D i → x = val i) ∧ ((∀ (i : Nat) (o : Oper), ops[i]? = some o → o.dst = some t → ¬ D i) → x = T.get und a0 t)
section
variable {ops : Array Oper} {val : Nat → AV} {a0 : T AV} {D D' : Nat → Prop} {t : Nat} {x y : AV}
theorem Mixed.same (h : Mixed ops val a0 D t x) (h' : Mixed ops val a0 D' t y) (hD : ∀ (i : Nat) (o : Oper), ops[i]? = some o → o.dst = some t → (D i ↔ D' i)) : x = y := by
  by_cases hq : ∃ (i : Nat) (o : Oper), ops[i]? = some o ∧ o.dst = some t ∧ D i
  · obtain ⟨i, o, h1, h2, h3⟩ := hq
    rw [h.1 i o h1 h2 h3, h'.1 i o h1 h2 ((hD i o h1 h2).1 h3)]
  · have h1 : ∀ (i : Nat) (o : Oper), ops[i]? = some o → o.dst = some t → ¬ D i := fun i o h1 h2 h3 => hq ⟨i, o, h1, h2, h3⟩
    rw [h.2 h1, h'.2 fun i o h2 h3 h4 => h1 i o h2 h3 ((hD i o h2 h3).2 h4)]
theorem Mixed.conv (h : Mixed ops val a0 D t x) (hD : ∀ (i : Nat) (o : Oper), ops[i]? = some o → o.dst = some t → (D i ↔ D' i)) : Mixed ops val a0 D' t x :=
  ⟨fun i o h1 h2 h3 => h.1 i o h1 h2 ((hD i o h1 h2).2 h3), fun hn => h.2 fun i o h1 h2 h3 => hn i o h1 h2 ((hD i o h1 h2).1 h3)⟩
def upd {α : Type} (f : Nat → α) (i : Nat) (v : α) : Nat → α := fun j => if j = i then v else f j
theorem upd_same {α : Type} {f : Nat → α} {i : Nat} {v : α} : upd f i v i = v := if_pos rfl
theorem upd_other {α : Type} {f : Nat → α} {i j : Nat} {v : α} (h : j ≠ i) : upd f i v j = f j := if_neg h
theorem Mixed.more (h : Mixed ops val a0 D t x) {i : Nat} {v : AV} (hi : ¬ D i) : Mixed ops (upd val i v) a0 D t x :=
  ⟨fun j o h1 h2 h3 => by
    have hji : j ≠ i := fun e => hi (by rw [← e]; exact h3)
    rw [upd_other hji]; exact h.1 j o h1 h2 h3, h.2⟩
end
section
variable {sy : Nat → Value} {P : Program} {G : Nat} {ops : Array Oper} {ms : List Nat}
/-- What an operation looks at, as the evaluator saw it. -/
def LookOk (sy : Nat → Value) (ops : Array Oper) (e : Env) (aj : T AV) (act : Act) (o : Oper) : Prop := ∀ t ∈ looks ops.toList o, t < top → RV sy e (T.get und aj t) (act.tmps.getD t undef)
theorem LookOk.opsOk {e : Env} {aj : T AV} {act : Act} {o : Oper} (h : LookOk sy ops e aj act o) : Ops sy e aj act o.op.operands := fun t ht htop => h t (by
  unfold looks
  refine List.mem_append.2 (.inl (List.mem_filterMap.2 ⟨.tmp t, by simpa using ht, rfl⟩))) htop
theorem LookOk.guard {e : Env} {aj : T AV} {act : Act} {o : Oper} (h : LookOk sy ops e aj act o) {g : Nat} {w : Bool} (hg : o.guard = some (g, w)) {d : Nat} (hd : (ops[g]?).bind (·.dst) = some d) (ht : d < top) : RV sy e (T.get und aj d) (act.tmps.getD d undef) := h d (by
  unfold looks
  refine List.mem_append.2 (.inr ?_)
  rw [hg]
  simp only [Array.getElem?_toList]
  rw [hd]; simp) ht
/-- Run whenever it comes up, an operation yields v and leaves the evaluator's memory as it was. -/
def Runs (P : Program) (sy : Nat → Value) (G : Nat) (o : Oper) (aj : T AV) (v : AV) (m : M) (nx : Nat) : Prop :=
  ∀ (R : Par) (W1 : World) (e : Env) (act : Act) (W : World), GlobOk G e → St sy R W1 e m nx W → Ops sy e aj act o.op.operands →
    Upon P (fun u W2 => ∃ e2, e.le e2 ∧ St sy R W1 e2 m nx W2 ∧ RV sy e2 v u) (fun _ _ => False) ((execOp act.eval o).run P W)
open Classical in
theorem runs_of {o : Oper} {aj : T AV} {v : AV} {m : M} {nx : Nat} {call : CallK} (hcall : ∀ N0 W0, CallOk P sy N0 W0 G call) (h : ∀ (K : KV) (KP : KV), K v m nx = true → (cOp P G o.op).f call aj m nx K KP = true) : Runs P sy G o aj v m nx := by
  intro R W1 e act W hG hst hops
  refine op_ok (P := P) (G := G) (sy := sy) (N0 := R) (W0 := W1) o.op call hcall aj m nx (fun u m' nx' => decide (u = v ∧ m' = m ∧ nx' = nx)) (fun _ _ _ => false) (h _ _ (by simp)) e act W hG hst hops _ _ ?_ ?_ o rfl
  · intro e' u u' m' nx' W' he hst' hu hK
    obtain ⟨rfl, rfl, rfl⟩ := of_decide_eq_true hK
    exact ⟨e', he, hst', hu⟩
  · intro e' c cs m' nx' W' _ _ _ hK
    cases hK
def LoadNow (P : Program) (G : Nat) (o : Oper) (aj : T AV) (m : M) (v : AV) : Prop := ∀ t x, o.op = .load t x → ∀ K : AV → Bool, (cOpd G x).k aj (fun w => (cLoad P t).f m w K) = K v
/-- What a pending allocation does. -/
def AllocSem (P : Program) (sy : Nat → Value) (G : Nat) (o : Oper) (aj : T AV) (p : Nat) (B : AB) (v : AV) : Prop :=
  ∀ (e : Env) (act : Act), GlobOk G e → Ops sy e aj act o.op.operands → ∃ (cs : Array Value) (el : TypeId) (w' : Nat → Value), B.n ≤ cs.size ∧ B.n ≤ top ∧
    (∀ i, i < B.n → ∃ u, cs[i]? = some u ∧ RV sy e (B.cell i) u ∧ (B.cell i).cell = true) ∧ (∀ (e2 : Env) (r : Nat), e2 p = some (r, 0, cs.size) → RV sy e2 v (w' r)) ∧
    ∀ W : World, (execOp act.eval o).run P W = .ok (.value (w' W.heap.size)) (W.alloc (.cells cs el))
/-- What the evaluator saw lets the operation run. -/
def GuardYes (ops : Array Oper) (o : Oper) (aj : T AV) : Prop := o.guard = none ∨ ∃ (g : Nat) (w : Bool) (d : Nat), o.guard = some (g, w) ∧ (ops[g]?).bind (·.dst) = some d ∧ d < top ∧ T.get und aj d = .bool w
inductive Pd (P : Program) (sy : Nat → Value) (G : Nat) (ops : Array Oper) (o : Oper) (aj : T AV) (v : AV) (po : Option (Nat)) (m : M) (R : Par) : Prop
  | skip (h : ∀ e act, LookOk sy ops e aj act o → Region.wanted o (yielded ops act.tmps) = false) (hv : v = und)
  | plain (hw : ∀ e act, LookOk sy ops e aj act o → Region.wanted o (yielded ops act.tmps) = true) (h : ∀ m nx, Runs P sy G o aj v m nx)
  | load (hw : ∀ e act, LookOk sy ops e aj act o → Region.wanted o (yielded ops act.tmps) = true) (hg : GuardYes ops o aj) (hk : kindOf o.op = 1) (h : LoadNow P G o aj m v)
  | alloc (hw : ∀ e act, LookOk sy ops e aj act o → Region.wanted o (yielded ops act.tmps) = true) (hk : kindOf o.op = 2) (p : Nat) (hpo : po = some p) (B : AB) (hp : R.res p = some B) (h : AllocSem P sy G o aj p B v)
/-- A name that was spoken for gets its block. -/
theorem RM.bind {R : Par} {e : Env} {m : M} {nx : Nat} {W : World} (h : RM sy R e m nx W) (hN : R.n ≤ W.heap.size) {p : Nat} {B : AB} (hp : R.res p = some B) {cs : Array Value} {el : TypeId} (hle : B.n ≤ cs.size) (ht : B.n ≤ top)
    (hc : ∀ i, i < B.n → ∃ v, cs[i]? = some v ∧ RV sy e (B.cell i) v ∧ (B.cell i).cell = true) :
    RM sy ⟨R.n, fun q => if q = p then none else R.res q⟩ (e.new p (W.heap.size, 0, cs.size)) m nx (W.alloc (.cells cs el)) := by
  obtain ⟨h0, hat0, k, hk, hpk⟩ := h.res p B hp
  have hle' : e.le (e.new p (W.heap.size, 0, cs.size)) := Env.le_new h0
  have hA := h.alloc (.cells cs el)
  have hat : ∀ i, (W.alloc (.cells cs el)).cell? ⟨W.heap.size, 0 + i, none⟩ = cs[i]? := fun i => by
    simp only [World.cell?, heap_alloc, Nat.zero_add, Option.isSome_none, Bool.false_eq_true, if_false]
  refine ⟨fun q C r base sz h1 h2 => ?_, fun q q' C C' x x' h1 h2 h3 h4 h5 => ?_, fun q x hq => ?_, fun q x hq => ?_, h.nb, fun q C hq => ?_⟩
  · by_cases hqp : q = p
    · subst hqp
      rw [Env.new_same] at h2
      cases h2
      rw [hat0] at h1
      cases h1
      refine ⟨hle, ht, fun i hi => ⟨cs[i], by rw [hat, Array.getElem?_eq_getElem hi]⟩, fun i hi => ?_, fun _ => hN, fun _ i _ hi => ?_⟩
      · obtain ⟨v, g1, g2, g3⟩ := hc i hi
        exact ⟨v, (hat i).trans g1, g2.mono hle', g3⟩
      · simp only [World.frozen?, heap_alloc]
        simp
    · rw [Env.new_other hqp] at h2
      have hH := hA.blk q C r base sz h1 h2
      exact ⟨hH.n, hH.top, hH.there, (fun i hi => let ⟨v, g1, g2, g3⟩ := hH.cells i hi; ⟨v, g1, g2.mono hle', g3⟩), hH.own, hH.free⟩
  · by_cases hqp : q = p <;> by_cases hqp' : q' = p
    · rw [hqp, hqp']
    · subst hqp
      rw [Env.new_same] at h3
      obtain rfl := Option.some.inj h3
      rw [Env.new_other hqp'] at h4
      have := h.lt _ _ h4
      simp only at h5
      omega
    · subst hqp'
      rw [Env.new_same] at h4
      obtain rfl := Option.some.inj h4
      rw [Env.new_other hqp] at h3
      have := h.lt _ _ h3
      simp only at h5
      omega
    · rw [Env.new_other hqp] at h3
      rw [Env.new_other hqp'] at h4
      exact h.inj q q' C C' x x' h1 h2 h3 h4 h5
  · by_cases hqp : q = p
    · exact ⟨k, hk, hqp.trans hpk⟩
    · rw [Env.new_other hqp] at hq
      exact h.nm q x hq
  · by_cases hqp : q = p
    · subst hqp
      rw [Env.new_same] at hq
      obtain rfl := Option.some.inj hq
      exact size_alloc W _
    · rw [Env.new_other hqp] at hq
      exact hA.lt q x hq
  · by_cases hqp : q = p
    · subst hqp
      simp at hq
    · simp only [if_neg hqp] at hq
      obtain ⟨g1, g2⟩ := h.res q C hq
      exact ⟨by rw [Env.new_other hqp]; exact g1, g2⟩
theorem RM.par {R R' : Par} {e : Env} {m : M} {nx : Nat} {W : World} (h : RM sy R e m nx W) (hn : R'.n = R.n) (hr : ∀ q B, R'.res q = some B → R.res q = some B) : RM sy R' e m nx W := by
  refine ⟨fun q C r base sz h1 h2 => ?_, h.inj, h.nm, h.lt, h.nb, fun q C hq => h.res q C (hr q C hq)⟩
  have hH := h.blk q C r base sz h1 h2
  exact ⟨hH.n, hH.top, hH.there, hH.cells, (fun hro => by rw [hn]; exact hH.own hro), hH.free⟩
theorem St.par {R R' : Par} {W1 : World} {e : Env} {m : M} {nx : Nat} {W : World} (h : St sy R W1 e m nx W) (hn : R'.n = R.n) (hr : ∀ q B, R'.res q = some B → R.res q = some B) : St sy R' W1 e m nx W :=
  ⟨h.rm.par hn hr, by rw [hn]; exact h.be, by rw [hn]; exact h.hN⟩
end
end
end Go.Proofs.YtdoddlkppkegnaaGreatDoor.Ev
