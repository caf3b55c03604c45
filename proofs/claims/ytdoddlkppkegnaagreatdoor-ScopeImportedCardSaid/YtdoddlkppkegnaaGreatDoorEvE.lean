/- The evaluator's equality is the model's; its operations on two values do what the model's do. No conditions. -/
import Derived.Test.YtdoddlkppkegnaaGreatDoorEvB
import Derived.Laws.StructEq
namespace Go.Proofs.YtdoddlkppkegnaaGreatDoor.Ev
set_option linter.unusedVariables false
open Go Go.RowKit
set_option linter.unusedSimpArgs false
section
variable {P : Program} {sy : Nat → Value} {e : Env}
theorem ifB_some {α : Type} {b : Bool} {x r : α} (h : ifB b (some x) none = some r) : b = true ∧ x = r := by cases b; cases h; cases h; exact ⟨rfl, rfl⟩
theorem isAgg_run {t : TypeId} {b : Bool} (h : isAgg P t = some b) (W : World) : (Go.isAgg t).run P W = .ok b W := by
  unfold isAgg at h
  try simp only [undF_eq, infoF_eq, funF_eq] at h
  cases hu : P.underlying t with
  | none => rw [hu] at h; cases h
  | some d =>
    rw [hu] at h
    cases d <;> cases h <;> simp [Go.isAgg, run_underlying hu]
theorem sizeAt_run {t : TypeId} {s : Nat} (h : sizeAt P t = some s) (W : World) : (Go.sizeOf t).run P W = .ok s W := by
  unfold sizeAt at h
  try simp only [undF_eq, infoF_eq, funF_eq] at h
  cases hi : P.info? t with
  | none => rw [hi] at h; cases h
  | some i => rw [hi] at h; cases h; simp [Go.sizeOf, typeInfo, hi]
theorem RL.toL {l : AV} {vs : List Value} (h : RL sy e l vs) : ∀ {i : Nat} {x : AV}, (toL l)[i]? = some x → ∃ v, vs[i]? = some v ∧ RV sy e x v := by
  induction vs generalizing l with
  | nil => cases h; intro i x hx; simp [Ev.toL] at hx
  | cons v vs ih =>
    cases h with
    | cons hv hl =>
      intro i x hx
      cases i with
      | zero => simp [Ev.toL] at hx; subst hx; exact ⟨v, rfl, hv⟩
      | succ i =>
        simp only [Ev.toL, List.getElem?_cons_succ] at hx
        obtain ⟨w, h1, h2⟩ := ih hl hx
        exact ⟨w, by simpa using h1, h2⟩
theorem RL.ofTo {l : AV} {vs : List Value} (h : RL sy e l vs) : RL sy e (ofL (Ev.toL l)) vs := by
  induction vs generalizing l with
  | nil => cases h; exact .eol
  | cons v vs ih => cases h with | cons hv hl => exact .cons hv (ih hl)
theorem RL.take {l : AV} {vs : List Value} (h : RL sy e l vs) : ∀ (s : Nat), RL sy e (ofL ((Ev.toL l).take s)) (vs.take s) := by
  induction vs generalizing l with
  | nil => cases h; intro s; simp [Ev.toL]; exact .eol
  | cons v vs ih =>
    cases h with
    | cons hv hl =>
      intro s
      cases s with
      | zero => simp; exact .eol
      | succ s => simp only [Ev.toL, List.take_succ_cons, ofL]; exact .cons hv (ih hl s)
theorem RL.cut {l : AV} {vs : List Value} (h : RL sy e l vs) : ∀ (off s : Nat), RL sy e (ofL (((Ev.toL l).drop off).take s)) ((vs.drop off).take s) := by
  induction vs generalizing l with
  | nil => cases h; intro off s; simp [Ev.toL]; exact .eol
  | cons v vs ih =>
    intro off s
    cases off with
    | zero => exact h.take s
    | succ off => cases h with | cons hv hl => simpa [Ev.toL] using ih hl off s
theorem partA_run {t : TypeId} {l x : AV} {vs : List Value} {off : Nat} (h : partA P t (Ev.toL l) off = some x) (hl : RL sy e l vs) : ∃ v, RV sy e x v ∧ ∀ W, (part t vs.toArray off).run P W = .ok v W := by
  unfold partA at h
  try simp only [undF_eq, infoF_eq, funF_eq] at h
  cases ha : isAgg P t with
  | none => rw [ha] at h; simp at h
  | some b =>
    cases hs : sizeAt P t with
    | none => rw [ha, hs] at h; cases b <;> simp at h
    | some s =>
      rw [ha, hs] at h
      cases b with
      | true =>
        simp only [Option.some.injEq] at h
        subst h
        refine ⟨_, .agg (hl.cut off s), fun W => ?_⟩
        simp [part, isAgg_run ha, sizeAt_run hs]
      | false =>
        obtain ⟨v, h1, h2⟩ := hl.toL h
        exact ⟨v, h2, fun W => by simp [part, isAgg_run ha, h1]⟩
theorem eqFs_run {d : Nat} {eq : TypeId → AV → AV → Option Bool} (heq : ∀ t x y r u v, eq t x y = some r → RV sy e x u → RV sy e y v → ∀ W, (Op.equalIn d t u v).run P W = .ok r W) {l l' : AV} {xs ys : List Value} (hx : RL sy e l xs) (hy : RL sy e l' ys) :
    ∀ (fs : List Field) (r : Bool), eqFs eq P (Ev.toL l) (Ev.toL l') fs = some r → ∀ W, (Op.eqFields d xs.toArray ys.toArray fs).run P W = .ok r W
  | [], r, h, W => by cases h; simp [Op.eqFields]
  | f :: fs, r, h, W => by
    unfold eqFs at h
    try simp only [undF_eq, infoF_eq, funF_eq] at h
    by_cases hn : f.name = "_"
    · have hb : (f.name == "_") = true := by simpa using hn
      rw [hb] at h
      simp only [Op.eqFields, hn, ne_eq, not_true_eq_false, if_false]
      exact eqFs_run heq hx hy fs r h W
    · have hb : (f.name == "_") = false := by simpa using hn
      rw [hb] at h
      cases h1 : partA P f.type (Ev.toL l) f.offset with
      | none => rw [h1] at h; simp at h
      | some a =>
        cases h2 : partA P f.type (Ev.toL l') f.offset with
        | none => rw [h1, h2] at h; simp at h
        | some b =>
          rw [h1, h2] at h
          obtain ⟨u, hu, hu'⟩ := partA_run h1 hx
          obtain ⟨v, hv, hv'⟩ := partA_run h2 hy
          cases h3 : eq f.type a b with
          | none => simp only [h3] at h; cases h
          | some q =>
            simp only [h3] at h
            have h4 := heq _ _ _ _ _ _ h3 hu hv
            simp only [Op.eqFields, ne_eq, hn, not_false_eq_true, if_true, Sem.run_bind, hu', hv', h4, Result.andThen_ok]
            cases q with
            | true => simpa using eqFs_run heq hx hy fs r h W
            | false => cases h; simp
theorem eqT_run : ∀ (n d : Nat), n ≤ d → ∀ (t : TypeId) (x y : AV) (r : Bool) (u v : Value), eqT P n t x y = some r → RV sy e x u → RV sy e y v → ∀ W, (Op.equalIn d t u v).run P W = .ok r W
  | 0, _, _, t, x, y, r, u, v, h, _, _ => by cases h
  | n + 1, 0, hd, _, _, _, _, _, _, _, _, _ => by omega
  | n + 1, d + 1, hd, t, x, y, r, u, v, h, hu, hv => by
    intro W
    unfold eqT at h
    try simp only [undF_eq, infoF_eq, funF_eq] at h
    cases ht : P.underlying t with
    | none => rw [ht] at h; simp at h
    | some desc =>
      rw [ht] at h
      split at h
      · rename_i heq
        cases heq; cases hu; cases hv; cases h
        exact run_equalIn_bool' _ _ _ _ _ ht
      · rename_i heq
        cases heq; cases hu; cases hv
        obtain ⟨hk, rfl⟩ := ifB_some h
        obtain rfl := sameK_yes hk
        rw [run_equalIn_int _ _ _ _ _ _ _ ht, eqI_eq]
        rfl
      · rename_i heq
        cases heq
        cases hu with | str hs => cases hv with | str hr =>
        cases h
        rw [run_equalIn_string _ _ _ _ _ ht, eqNs_str hs hr]
      · rename_i fs xs ys heq
        cases heq
        cases hp : P.stoodInHeld t with
        | true => rw [hp] at h; simp at h
        | false =>
          rw [hp] at h
          cases hu with | agg hx => cases hv with | agg hy =>
          have hf : P.fieldsOf t = fs := by simp [Program.fieldsOf, ht]
          rw [run_equalIn_agg _ _ _ _ _ (by rw [hf]; exact ht) hp, hf]
          exact eqFs_run (fun t x y r u v h hu hv => eqT_run n d (by omega) t x y r u v h hu hv) hx hy _ r h W
      · cases h
end
end Go.Proofs.YtdoddlkppkegnaaGreatDoor.Ev
