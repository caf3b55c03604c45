/- The evaluator's operations that touch no memory do what the model's do. No conditions. -/
import Derived.Test.YtdoddlkppkegnaaGreatDoorEvR
namespace Go.Proofs.YtdoddlkppkegnaaGreatDoor.Ev
set_option linter.unusedVariables false
set_option linter.unusedSimpArgs false
open Go Go.RowKit

section
variable {sy : Nat → Value} {N0 : Par} {W0 : World}
/-- The evaluator's memory and the world. -/
structure St (sy : Nat → Value) (N0 : Par) (W0 : World) (e : Env) (m : M) (nx : Nat) (W : World) : Prop where
  rm : RM sy N0 e m nx W
  be : Below N0.n W0 W
  hN : N0.n ≤ W.heap.size
def KOk (sy : Nat → Value) (N0 : Par) (W0 : World) (e : Env) (K : KV) (Y : Value → World → Prop) : Prop :=
  ∀ e' v v' m nx W, e.le e' → St sy N0 W0 e' m nx W → RV sy e' v v' → K v m nx = true → Y v' W
def POk (sy : Nat → Value) (N0 : Par) (W0 : World) (e : Env) (K : KV) (Z : List Value → World → Prop) : Prop :=
  ∀ e' c cs m nx W, e.le e' → St sy N0 W0 e' m nx W → RL sy e' c cs → K c m nx = true → Z cs W
/-- A chain of panics that nobody has recovered. -/
def raw (cs : List Value) : List PanicEntry := cs.map fun v => { v, recovered := false }
def Upon (P : Program) (Y : Value → World → Prop) (Z : List Value → World → Prop) : Result Next → Prop
  | .ok (.value v) W => Y v W
  | .ok .skip W => Y undef W
  | .ok (.enter f args) W => Calls P f args W fun
    | .returned v, W' => Y v W'
    | .panicked chain, W' => ∃ cs, chain = raw cs ∧ Z cs W'
    | .outgrown, _ => False
  | .halt (.panic v) W => Z [v] W
  | _ => False
def CallOk (P : Program) (sy : Nat → Value) (N0 : Par) (W0 : World) (G : Nat) (call : CallK) : Prop :=
  ∀ f l m nx K KP, call f l m nx K KP = true → ∀ e args W, (∀ g, g < G → ∃ sz, e g = some (g, 0, sz)) → St sy N0 W0 e m nx W → RL sy e l args → ∀ Y Z, KOk sy N0 W0 e K Y → POk sy N0 W0 e KP Z →
    Upon P Y Z ((callFunc f args.toArray).run P W)
/-- The operands that an operation looks at. -/
def Ops (sy : Nat → Value) (e : Env) (a : T AV) (act : Act) (l : Array Operand) : Prop := ∀ t, .tmp t ∈ l → t < top → RV sy e (T.get und a t) (act.eval (.tmp t))
def OpOk (P : Program) (sy : Nat → Value) (N0 : Par) (W0 : World) (G : Nat) (b : BX) (op : Op) : Prop :=
  ∀ call, (∀ N0 W0, CallOk P sy N0 W0 G call) → ∀ a m nx K KP, b.f call a m nx K KP = true → ∀ e act W, (∀ g, g < G → ∃ sz, e g = some (g, 0, sz)) → St sy N0 W0 e m nx W → Ops sy e a act op.operands → ∀ Y Z, KOk sy N0 W0 e K Y → POk sy N0 W0 e KP Z →
    ∀ o : Oper, o.op = op → Upon P Y Z ((execOp act.eval o).run P W)
variable {e : Env} {P : Program} {G : Nat} {a : T AV} {act : Act}
theorem xNo_ok {op : Op} : OpOk P sy N0 W0 G xNo op := fun _ _ _ _ _ _ _ h => by cases h

theorem absL_ok {f : Value → Option AV} (hf : ∀ v w, f v = some w → RV sy e w v) : ∀ (l : List Value) (w : AV), absL f l = some w → RL sy e w l
  | [], w, h => by cases h; exact .eol
  | v :: l, w, h => by
    unfold absL at h
    split at h
    · rename_i x y hx hy
      cases h
      exact .cons (hf _ _ hx) (absL_ok hf l _ hy)
    · cases h
theorem absF_ok : ∀ (n : Nat) (v : Value) (w : AV), absF n v = some w → RV sy e w v := by
  intro n
  induction n with
  | zero =>
    intro v w h
    cases v with
    | bool b => cases h; exact .bool _
    | int k n => cases h; exact .int _ _
    | string s => cases h; exact .str rfl
    | pointer a => cases a with
      | none => cases h; exact .nilp
      | some a => cases h
    | slice a n c => cases a with
      | none => cases n with
        | zero => cases c with
          | zero => cases h; exact .nils
          | succ c => cases h
        | succ n => cases h
      | some a => cases h
    | nilFunc => cases h; exact .nilf
    | nilIface => cases h; exact .nili
    | _ => cases h
  | succ f ih =>
    intro v w h
    cases v with
    | bool b => cases h; exact .bool _
    | int k n => cases h; exact .int _ _
    | string s => cases h; exact .str rfl
    | pointer a => cases a with
      | none => cases h; exact .nilp
      | some a => cases h
    | slice a n c => cases a with
      | none => cases n with
        | zero => cases c with
          | zero => cases h; exact .nils
          | succ c => cases h
        | succ n => cases h
      | some a => cases h
    | nilFunc => cases h; exact .nilf
    | nilIface => cases h; exact .nili
    | agg cs =>
      obtain ⟨l, hl, rfl⟩ := Option.map_eq_some_iff.1 h
      exact RV.agg (vs := cs.toList) (absL_ok ih _ _ hl)
    | tuple cs =>
      obtain ⟨l, hl, rfl⟩ := Option.map_eq_some_iff.1 h
      exact RV.tup (vs := cs.toList) (absL_ok ih _ _ hl)
    | _ => cases h
variable (hG : ∀ g, g < G → ∃ sz, e g = some (g, 0, sz))
include hG
theorem cOpd_ok {x : Operand} {l : Array Operand} (ho : Ops sy e a act l) (hx : x ∈ l) {K : AV → Bool} (h : (cOpd G x).k a K = true) : ∃ v, K v = true ∧ RV sy e v (act.eval x) := by
  cases x with
  | tmp t =>
    cases hb : Nat.blt t top with
    | false => simp only [cOpd, hb, BO.k] at h; cases h
    | true =>
      simp only [cOpd, hb, BO.k] at h
      rw [T.getP_eq] at h
      exact ⟨_, h, ho t hx (blt_iff.1 hb)⟩
  | const v =>
    cases hw : absF 8 v with
    | none => simp only [cOpd, hw, BO.k] at h; cases h
    | some w => simp only [cOpd, hw, BO.k] at h; exact ⟨w, h, absF_ok 8 v w hw⟩
  | global g =>
    cases hg : Nat.blt g G with
    | false => simp only [cOpd, hg, BO.k] at h; cases h
    | true =>
      simp only [cOpd, hg, BO.k] at h
      obtain ⟨sz, hs⟩ := hG g (blt_iff.1 hg)
      exact ⟨_, h, RV.ref (sy := sy) (o := 0) hs⟩
  | func f => exact ⟨_, h, .fn .eol .eol⟩
theorem cOpds_ok {l : Array Operand} (ho : Ops sy e a act l) : ∀ (xs : List Operand), (∀ x ∈ xs, x ∈ l) → ∀ {K : AV → Bool}, (cOpds G xs).k a K = true → ∃ v, K v = true ∧ RL sy e v (xs.map act.eval)
  | [], _, _, h => ⟨_, h, .eol⟩
  | x :: xs, hx, K, h => by
    have h' : (cOpd G x).k a (fun v => (cOpds G xs).k a fun w => K (.cons v w)) = true := h
    obtain ⟨v, h1, hv⟩ := cOpd_ok hG ho (hx x List.mem_cons_self) h'
    obtain ⟨w, h2, hw⟩ := cOpds_ok ho xs (fun y hy => hx y (List.mem_cons_of_mem _ hy)) h1
    exact ⟨_, h2, .cons hv hw⟩
end

section
variable {sy : Nat → Value} {N0 : Par} {W0 : World} {P : Program} {G : Nat}
/-- An operation of which memory knows nothing. -/
theorem xP_ok {op : Op} {g : T AV → (AV → Bool) → Bool}
    (h : ∀ a K, g a K = true → ∀ e act, (∀ g, g < G → ∃ sz, e g = some (g, 0, sz)) → Ops sy e a act op.operands → ∃ v v', K v = true ∧ RV sy e v v' ∧ ∀ (o : Oper) (W : World), o.op = op → (execOp act.eval o).run P W = .ok (.value v') W) :
    OpOk P sy N0 W0 G (xP g) op := by
  intro call _ a m nx K KP hb e act W hG hst hops Y Z hK _ o ho
  obtain ⟨v, v', h1, h2, h3⟩ := h a (fun v => K v m nx) hb e act hG hops
  rw [h3 o W ho]
  exact hK e v v' m nx W (Env.le_refl e) hst h2 h1
theorem op_move (x : Operand) : OpOk P sy N0 W0 G (cOp P G (.move x)) (.move x) := by
  (try simp only [cOp, BX.f, undF_eq, infoF_eq, funF_eq]); refine xP_ok ?_
  intro a K h e act hG hops
  obtain ⟨v, h1, h2⟩ := cOpd_ok hG hops (x := x) (by simp [Op.operands]) h
  exact ⟨v, _, h1, h2, fun o W ho => by simp [execOp, ho, pure]⟩
theorem op_assign (x : Operand) : OpOk P sy N0 W0 G (cOp P G (.assign x)) (.assign x) := by
  (try simp only [cOp, BX.f, undF_eq, infoF_eq, funF_eq]); refine xP_ok ?_
  intro a K h e act hG hops
  obtain ⟨v, h1, h2⟩ := cOpd_ok hG hops (x := x) (by simp [Op.operands]) h
  exact ⟨v, _, h1, h2, fun o W ho => by simp [execOp, ho, pure]⟩
theorem op_pick (c x y : Operand) : OpOk P sy N0 W0 G (cOp P G (.pick c x y)) (.pick c x y) := by
  (try simp only [cOp, BX.f, undF_eq, infoF_eq, funF_eq]); refine xP_ok ?_
  intro a K h e act hG hops
  obtain ⟨v, h1, h2⟩ := cOpd_ok hG hops (x := c) (by simp [Op.operands]) h
  obtain ⟨b, rfl, h3⟩ := asBool_yes h1
  generalize hc : act.eval c = cv at h2
  cases h2
  cases b with
  | true =>
    obtain ⟨w, h4, h5⟩ := cOpd_ok hG hops (x := x) (by simp [Op.operands]) h3
    exact ⟨w, _, h4, h5, fun o W ho => by simp [execOp, ho, hc, Go.asBool, pure, bind, Sem.bind]⟩
  | false =>
    obtain ⟨w, h4, h5⟩ := cOpd_ok hG hops (x := y) (by simp [Op.operands]) h3
    exact ⟨w, _, h4, h5, fun o W ho => by simp [execOp, ho, hc, Go.asBool, pure, bind, Sem.bind]⟩
theorem op_nilCheck (x : Operand) : OpOk P sy N0 W0 G (cOp P G (.nilCheck x)) (.nilCheck x) := by
  (try simp only [cOp, BX.f, undF_eq, infoF_eq, funF_eq]); refine xP_ok ?_
  intro a K h e act hG hops
  obtain ⟨v, h1, h2⟩ := cOpd_ok hG hops (x := x) (by simp [Op.operands]) h
  refine ⟨v, act.eval x, ?_, h2, fun o W ho => ?_⟩
  · cases v <;> first | exact h1 | cases h1
  · generalize hc : act.eval x = cv at h2
    cases h2 <;> first | (cases h1; done) | simp [execOp, ho, hc, pure]
theorem RL.get {sy : Nat → Value} {e : Env} {l : AV} {vs : List Value} (h : RL sy e l vs) : ∀ (i : Nat) {K : AV → Bool}, dropA i l K = true → ∃ l', K l' = true ∧ RL sy e l' (vs.drop i)
  | 0, K, hd => ⟨l, hd, h⟩
  | i + 1, K, hd => by
    obtain ⟨x, l', rfl, h'⟩ := asCons_yes (K := fun _ l => dropA i l K) hd
    cases h with
    | cons hx hl => exact hl.get i h'
theorem RL.part {sy : Nat → Value} {e : Env} {l : AV} {vs : List Value} (h : RL sy e l vs) : ∀ (i : Nat) {K : AV → Bool}, takeA i l K = true → ∃ l', K l' = true ∧ RL sy e l' (vs.take i) ∧ i ≤ vs.length
  | 0, K, hd => ⟨.eol, hd, .eol, Nat.zero_le _⟩
  | i + 1, K, hd => by
    obtain ⟨x, l', rfl, h'⟩ := asCons_yes (K := fun x l => takeA i l fun l => K (.cons x l)) hd
    cases h with
    | cons hx hl =>
      obtain ⟨l'', h1, h2, h3⟩ := hl.part i h'
      exact ⟨_, h1, .cons hx h2, Nat.succ_le_succ h3⟩
theorem op_extract (x : Operand) (i : Nat) : OpOk P sy N0 W0 G (cOp P G (.extract x i)) (.extract x i) := by
  (try simp only [cOp, BX.f, undF_eq, infoF_eq, funF_eq]); refine xP_ok ?_
  intro a K h e act hG hops
  obtain ⟨v, h1, h2⟩ := cOpd_ok hG hops (x := x) (by simp [Op.operands]) h
  obtain ⟨l, rfl, h3⟩ := asTup_yes h1
  generalize hc : act.eval x = cv at h2
  cases h2 with
  | tup hl =>
    obtain ⟨l', h4, h5⟩ := hl.get i h3
    obtain ⟨y, l'', rfl, h6⟩ := asCons_yes h4
    generalize hd : List.drop i _ = ds at h5
    cases h5 with
    | cons hy hl' =>
      rename_i vs v' vs'
      have hi : vs[i]? = some v' := by rw [← List.head?_drop, hd]; rfl
      exact ⟨y, v', h6, hy, fun o W ho => by simp [execOp, ho, hc, Instr.extract, hi, pure, bind, Sem.bind]⟩
theorem op_makeFunc (f : FuncId) (x c : Array Operand) : OpOk P sy N0 W0 G (cOp P G (.makeFunc (.func f) x c)) (.makeFunc (.func f) x c) := by
  (try simp only [cOp, BX.f, undF_eq, infoF_eq, funF_eq]); refine xP_ok ?_
  intro a K h e act hG hops
  obtain ⟨v, h1, h2⟩ := cOpds_ok hG hops x.toList (by simp [Op.operands]; intro x hx; exact .inl hx) h
  obtain ⟨w, h3, h4⟩ := cOpds_ok hG hops c.toList (by simp [Op.operands]; intro x hx; exact .inr hx) h1
  refine ⟨_, _, h3, .fn h2 h4, fun o W ho => ?_⟩
  simp [execOp, ho, Instr.makeFunc, pure, bind, Sem.bind]
  exact ⟨Array.ext' (by simp), Array.ext' (by simp)⟩
theorem op_makeInterface (t : TypeId) (x : Operand) : OpOk P sy N0 W0 G (cOp P G (.makeInterface t x)) (.makeInterface t x) := by
  cases hu : P.underlying t with
  | none => simp only [cOp, hu, BX.f, undF_eq, infoF_eq, funF_eq]; exact xNo_ok
  | some d =>
    by_cases hd : ∃ ms, d = .interface ms
    · obtain ⟨ms, rfl⟩ := hd
      simp only [cOp, hu, BX.f, undF_eq, infoF_eq, funF_eq]; exact xNo_ok
    · have e1 : cOp P G (.makeInterface t x) = xP fun a K => (cOpd G x).k a fun v => K (.ifc t v) := by
        simp only [cOp, hu, BX.f, undF_eq, infoF_eq, funF_eq]
        all_goals (cases d <;> first | rfl | exact absurd ⟨_, rfl⟩ hd)
      rw [e1]
      refine xP_ok ?_
      intro a K h e act hG hops
      obtain ⟨v, h1, h2⟩ := cOpd_ok hG hops (x := x) (by simp [Op.operands]) h
      refine ⟨_, _, h1, .ifc h2, fun o W ho => ?_⟩
      cases d <;> first | exact absurd ⟨_, rfl⟩ hd | simp [execOp, ho, Instr.makeInterface, run_underlying hu]
end
end Go.Proofs.YtdoddlkppkegnaaGreatDoor.Ev
