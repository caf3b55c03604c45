/- What the unifier leaves is accepted again; unified again nothing changes. No program in sight. UnifyStable, in plain words: what Unify leaves for types of at most 25 levels is accepted again, and nothing changes. No program in sight. -/
import Derived.Test.YthchnabhbpdfgaaDoorMSmall
import Derived.Test.YthchnabhbpdfgaaDoorUCmpC
section
namespace Go.Proofs.YthchnabhbpdfgaaDoor
open Go.RowKit Go.Shelf Go.Sort Stab

mutual
/-- Levels of a type. -/
def dep : Ty → Nat
  | .mk _ _ _ l => deps l + 1
def deps : List Ty → Nat
  | [] => 0
  | a :: r => max (dep a) (deps r)
end
theorem dep_eq (t : Ty) : dep t = deps t.args + 1 := by cases t with | mk k n v l => rw [dep]; rfl
theorem deps_mem : ∀ (l : List Ty) (a : Ty), a ∈ l → dep a ≤ deps l
  | b :: r, a, h => by
    rw [deps]
    rcases List.mem_cons.1 h with rfl | h
    · omega
    · have := deps_mem r a h; omega
theorem dep_arg {t a : Ty} (h : a ∈ t.args) : dep a + 1 ≤ dep t := by rw [dep_eq t]; have := deps_mem _ _ h; omega
theorem dep_ext (l : ByteArray) (x r : Ty) : dep (extT l x r) = max (dep x) (dep r) + 1 := by
  rw [dep_eq]
  show max (dep x) (max (dep r) 0) + 1 = _
  omega
/-- Rows stand where rows belong. -/
inductive Kd : Ty → Prop
  | mk (t : Ty) (h : ∀ (i : Nat) (a : Ty), t.args[i]? = some a → a.kind = 0 ∨ rowed t.kind i a.kind = decide (4 ≤ a.kind)) (ha : ∀ a ∈ t.args, Kd a) : Kd t
theorem Kd.at_ {t a : Ty} {i : Nat} (h : Kd t) (e : t.args[i]? = some a) : a.kind = 0 ∨ rowed t.kind i a.kind = decide (4 ≤ a.kind) := by cases h with | mk _ h1 _ => exact h1 i a e
theorem Kd.arg {t a : Ty} (h : Kd t) (ha : a ∈ t.args) : Kd a := by cases h with | mk _ _ h2 => exact h2 a ha
mutual
theorem chk_kd : ∀ (t : Ty) (left : Int) (row : Bool) (depth : Int), (chk t left row depth).1 = 0 → Kd t ∧ (t.kind = 0 ∨ row = decide (4 ≤ t.kind))
  | .mk k n v l, left, row, depth, h => by
    rw [chk] at h
    split at h
    · exact absurd (show (2 : Int) = 0 from h) (by decide)
    split at h
    · exact absurd (show (9 : Int) = 0 from h) (by decide)
    split at h
    · exact absurd (show (3 : Int) = 0 from h) (by decide)
    split at h
    · exact absurd (show (9 : Int) = 0 from h) (by decide)
    rename_i h4
    split at h
    · exact absurd (show (4 : Int) = 0 from h) (by decide)
    · have h2 := chks_kd k l 0 (left - 1) (depth + 1) h
      refine ⟨.mk _ (fun i a e => ?_) (fun a ha => ?_), ?_⟩
      · have := (h2 i a e).2
        rw [Nat.zero_add] at this; exact this
      · obtain ⟨i, hi, e⟩ := List.mem_iff_getElem.1 ha
        exact (h2 i a (by rw [List.getElem?_eq_getElem (by exact hi)]; exact congrArg some e)).1
      · by_cases h0 : k = 0
        · exact .inl h0
        · exact .inr (Classical.byContradiction fun hr => h4 ⟨h0, hr⟩)
theorem chks_kd (k : Int) : ∀ (l : List Ty) (j : Nat) (left depth : Int), (chks k l j left depth).1 = 0 → ∀ (i : Nat) (a : Ty), l[i]? = some a → Kd a ∧ (a.kind = 0 ∨ rowed k (j + i) a.kind = decide (4 ≤ a.kind))
  | [], _, _, _, _ => fun i a e => by simp at e
  | b :: r, j, left, depth, h => by
    rw [chks] at h
    split at h
    · rename_i hz
      intro i a e
      cases i with
      | zero =>
        simp only [List.getElem?_cons_zero, Option.some.injEq] at e
        rw [← e]
        exact chk_kd b _ _ _ hz
      | succ i =>
        rw [List.getElem?_cons_succ] at e
        have := chks_kd k r (j + 1) _ depth h i a e
        rw [show j + 1 + i = j + (i + 1) by omega] at this
        exact this
    · rename_i hz
      exact absurd h hz
end
mutual
theorem chk_ok : ∀ (t : Ty) (left : Int) (row : Bool) (depth : Int), t.Wf → Kd t → (∀ v ∈ freeP t, v < 4096) → (t.kind = 0 ∨ row = decide (4 ≤ t.kind)) → (nodes t : Int) ≤ left → depth + (dep t : Int) ≤ 401 → chk t left row depth = (0, left - (nodes t : Int))
  | .mk k n v l, left, row, depth, hw, hk, hf, hr, hn, hd => by
    have hn' : (nodes (.mk k n v l) : Int) = (nodess l : Int) + 1 := by rw [nodes]; omega
    have hd' : (dep (.mk k n v l) : Int) = (deps l : Int) + 1 := by rw [dep]; omega
    rw [hn'] at hn ⊢
    rw [hd'] at hd
    have hr' : k = 0 ∨ row = decide (4 ≤ k) := hr
    have hf0 : k = 0 → v < 4096 := fun h0 => hf v (by rw [freeP_var (t := .mk k n v l) h0]; exact List.mem_singleton.2 rfl)
    have hfa : ∀ a ∈ l, ∀ w ∈ freeP a, w < 4096 := fun a ha w hw2 => by
      by_cases h0 : k = 0
      · cases hw with
        | mk _ _ _ _ hk' hs' hv' hn'' h0' hl' =>
          subst h0
          have : (l.length : Int) = 0 := hs' (Int.le_refl _)
          have := List.length_pos_of_mem ha
          omega
      · exact hf w ((freeP_args (t := .mk k n v l) h0).2 ⟨a, ha, hw2⟩)
    have hl := chks_ok k l 0 (left - 1) (depth + 1) (fun a ha => ⟨hw.arg ha, hk.arg ha, hfa a ha⟩) (fun i a e => by rw [Nat.zero_add]; exact hk.at_ e) (by omega) (by omega)
    cases hw with
    | mk _ _ _ _ hk' hs' hv' hn'' h0' hl' =>
      rw [chk, if_neg (by omega), if_neg (by omega), if_neg, if_neg, if_neg, hl]
      · simp only [Prod.mk.injEq, true_and]; omega
      · rintro ⟨h0, h1⟩
        have := h0' h0
        have := hf0 h0
        omega
      · rintro ⟨h0, h1⟩
        exact h1 (hr'.resolve_left h0)
      · rintro (⟨h1, h2⟩ | ⟨h1, h2⟩ | ⟨h1, h2, h3⟩)
        · exact h2 (hs' h1)
        · exact h2 (hv' h1)
        · rw [hn'' h1 h2] at h3; cases h3
theorem chks_ok (k : Int) : ∀ (l : List Ty) (j : Nat) (left depth : Int), (∀ a ∈ l, a.Wf ∧ Kd a ∧ ∀ v ∈ freeP a, v < 4096) → (∀ (i : Nat) (a : Ty), l[i]? = some a → a.kind = 0 ∨ rowed k (j + i) a.kind = decide (4 ≤ a.kind)) → (nodess l : Int) ≤ left → depth + (deps l : Int) ≤ 401 → chks k l j left depth = (0, left - (nodess l : Int))
  | [], _, left, _, _, _, _, _ => by rw [chks, nodess]; simp
  | b :: r, j, left, depth, h, hk, hn, hd => by
    rw [nodess] at hn ⊢
    rw [deps] at hd
    obtain ⟨h1, h2, h3⟩ := h b List.mem_cons_self
    have e := chk_ok b left (rowed k j b.kind) depth h1 h2 h3 (by have := hk 0 b rfl; rwa [Nat.add_zero] at this) (by omega) (by omega)
    rw [chks, e, if_pos rfl]
    dsimp only
    rw [chks_ok k r (j + 1) _ depth (fun a ha => h a (List.mem_cons_of_mem _ ha)) (fun i a e => by
      have := hk (i + 1) a (by rw [List.getElem?_cons_succ]; exact e)
      rwa [show j + (i + 1) = j + 1 + i by omega] at this) (by omega) (by omega)]
    simp only [Prod.mk.injEq, true_and]; omega
end
/-! ### The types at hand -/
/-- A row with flat labels. -/
inductive Qt : Ty → Prop
  | not (t : Ty) (h5 : t.kind ≠ 5) (hk : Kd t) (hd : dep t ≤ 25) : Qt t
  | row (l : ByteArray) (x r : Ty) (hx : Kd x ∧ dep x ≤ 25 ∧ x.kind < 4) (hr : Qt r) (hk : r.kind = 0 ∨ 4 ≤ r.kind) : Qt (extT l x r)
theorem Kd.row {l : ByteArray} {x r : Ty} (h : Kd (extT l x r)) : (Kd x ∧ x.kind < 4) ∧ Kd r ∧ (r.kind = 0 ∨ 4 ≤ r.kind) := by
  have h1 := h.at_ (i := 0) (a := x) rfl
  have h2 := h.at_ (i := 1) (a := r) rfl
  refine ⟨⟨h.arg (by simp [extT, Ty.args]), ?_⟩, h.arg (by simp [extT, Ty.args]), ?_⟩
  · rcases h1 with h1 | h1
    · omega
    · have h1 : rowed 5 0 x.kind = decide (4 ≤ x.kind) := h1
      have e : rowed 5 0 x.kind = false := by unfold rowed; simp
      rw [e] at h1
      have := of_decide_eq_false h1.symm
      omega
  · rcases h2 with h2 | h2
    · exact .inl h2
    · have h2 : rowed 5 1 r.kind = decide (4 ≤ r.kind) := h2
      have e : rowed 5 1 r.kind = true := by unfold rowed; simp
      rw [e] at h2
      exact .inr (of_decide_eq_true h2.symm)
theorem kd_ext {l : ByteArray} {x r : Ty} (hx : Kd x) (hx4 : x.kind < 4) (hr : Kd r) (hr4 : r.kind = 0 ∨ 4 ≤ r.kind) : Kd (extT l x r) := by
  refine .mk _ (fun i a e => ?_) (fun a ha => ?_)
  · match i with
    | 0 =>
      have e : some x = some a := e
      obtain rfl := Option.some.inj e
      right
      show rowed 5 0 x.kind = _
      have e2 : rowed 5 0 x.kind = false := by unfold rowed; simp
      rw [e2]
      exact (decide_eq_false (by omega)).symm
    | 1 =>
      have e : some r = some a := e
      obtain rfl := Option.some.inj e
      rcases hr4 with h | h
      · exact .inl h
      · right
        show rowed 5 1 r.kind = _
        have e2 : rowed 5 1 r.kind = true := by unfold rowed; simp
        rw [e2]
        exact (decide_eq_true h).symm
    | i + 2 =>
      have e : ([x, r] : List Ty)[i + 2]? = some a := e
      simp at e
  · have ha' : a = x ∨ a = r := by simpa [extT, Ty.args] using ha
    rcases ha' with rfl | rfl
    · exact hx
    · exact hr
theorem Qt.of (t : Ty) : t.Wf → Kd t → dep t ≤ 25 → Qt t := by
  refine row_ind (P := fun t => Kd t → dep t ≤ 25 → Qt t) (fun t _ h5 hk hd => .not t h5 hk hd) (fun l x r _ _ ih hk hd => ?_) t
  obtain ⟨⟨h1, h2⟩, h3, h4⟩ := hk.row
  rw [dep_ext] at hd
  exact .row l x r ⟨h1, by omega, h2⟩ (ih h3 (by omega)) h4
theorem Qt.kd {t : Ty} (h : Qt t) : Kd t := by
  induction h with
  | not t h5 hk hd => exact hk
  | row l x r hx hr hk ih => exact kd_ext hx.1 hx.2.2 ih hk
theorem Qt.dep {t : Ty} (h : Qt t) : Go.Proofs.YthchnabhbpdfgaaDoor.dep t ≤ sp t + 25 := by
  induction h with
  | not t h5 hk hd => omega
  | row l x r hx hr hk ih => rw [dep_ext, sp_ext]; omega
theorem Qt.inv {t : Ty} (h : Qt t) (h5 : t.kind = 5) : ∃ x r, t = extT t.name x r ∧ (Kd x ∧ Go.Proofs.YthchnabhbpdfgaaDoor.dep x ≤ 25 ∧ x.kind < 4) ∧ Qt r ∧ (r.kind = 0 ∨ 4 ≤ r.kind) := by
  cases h with
  | not t h6 hk hd => exact absurd h5 h6
  | row l x r hx hr hk => exact ⟨x, r, rfl, hx, hr, hk⟩
theorem Qt.arg {t a : Ty} (h : Qt t) (h5 : t.kind ≠ 5) (wa : a.Wf) (ha : a ∈ t.args) : Qt a := by
  cases h with
  | not t h6 hk hd => exact .of a wa (hk.arg ha) (by have := dep_arg ha; omega)
  | row l x r hx hr hk => exact absurd rfl h5
theorem Qt.lab {x : Ty} (h : Kd x ∧ Go.Proofs.YthchnabhbpdfgaaDoor.dep x ≤ 25 ∧ x.kind < 4) : Qt x := .not x (by omega) h.1 h.2.1
theorem kd_var (v : Int) : Kd (varT v) := .mk _ (fun i a e => by have e : ([] : List Ty)[i]? = some a := e; simp at e) (fun a ha => by cases ha)
theorem lab_var (v : Int) : Kd (varT v) ∧ dep (varT v) ≤ 25 ∧ (varT v).kind < 4 := ⟨kd_var v, by rw [dep_eq]; show deps [] + 1 ≤ 25; rw [deps]; omega, by show (0 : Int) < 4; decide⟩
section
variable {σ τ υ : List Ty}
def QS (σ : List Ty) : Prop := ∀ x ∈ σ, Qt x
theorem QS.set (h : QS σ) {t : Ty} (ht : Qt t) (v : Nat) : QS (σ.set v t) := fun x hx => by
  rcases List.mem_or_eq_of_mem_set hx with hx | rfl
  · exact h x hx
  · exact ht
theorem walk_qt (h : QS σ) : ∀ (k : Nat) (t r : Ty), Qt t → walkP σ k t = some r → Qt r
  | 0, _, _, _, e => by cases e
  | k + 1, t, r, hw, e => by
    rw [walkP] at e
    split at e
    · split at e
      · cases e
      · rename_i x hx
        split at e
        · rw [← Option.some.inj e]; exact hw
        · exact walk_qt h k x r (h x (List.mem_of_getElem? hx)) e
    · rw [← Option.some.inj e]; exact hw
theorem bind_qs (h : QS σ) {k : Nat} {v : Int} {t : Ty} (ht : Qt t) (e : bindP k σ v t = some (0, τ)) : QS τ := by
  rw [bindP] at e
  split at e
  · simp only [Option.some.injEq, Prod.mk.injEq, true_and] at e
    rw [← e]; exact h
  · split at e
    · cases e
    · simp only [Option.some.injEq, Prod.mk.injEq] at e
      exact absurd e.1 (by decide)
    · split at e
      · cases e
      · simp only [Option.some.injEq, Prod.mk.injEq] at e
        rw [← e.2]; exact h.set ht _
theorem extract_qs (k : Nat) (label : ByteArray) (not : Int) : ∀ (q : Nat) (σ : List Ty) (row t rest : Ty) (τ : List Ty), QS σ → Qt row → extractP k label not q σ row = some (t, rest, 0, τ) → QS τ ∧ (Kd t ∧ dep t ≤ 25 ∧ t.kind < 4) ∧ Qt rest ∧ (rest.kind = 0 ∨ 4 ≤ rest.kind)
  | 0, _, _, _, _, _, _, _, h => by cases h
  | q + 1, σ, row, t, rest, τ, hs, hr, h => by
    rw [extractP] at h
    cases hwk : walkP σ k row with
    | none => rw [hwk] at h; cases h
    | some c =>
      rw [hwk] at h
      dsimp only at h
      have hc := walk_qt hs k row c hr hwk
      split at h
      · split at h
        · simp only [Option.some.injEq, Prod.mk.injEq] at h
          exact absurd h.2.2.1 (by decide)
        · split at h
          · simp only [Option.some.injEq, Prod.mk.injEq] at h
            exact absurd h.2.2.1 (by decide)
          · split at h
            · cases h
            · simp only [Option.some.injEq, Prod.mk.injEq] at h
              obtain ⟨rfl, rfl, _, rfl⟩ := h
              refine ⟨QS.set (fun x hx => ?_) (.row _ _ _ (lab_var _) (.lab (lab_var _)) (.inl rfl)) _, lab_var _, .lab (lab_var _), .inl rfl⟩
              rcases List.mem_append.1 hx with hx | hx
              · exact hs x hx
              · simp only [List.mem_cons, List.not_mem_nil, or_false] at hx
                rcases hx with rfl | rfl
                · exact .lab (lab_var _)
                · exact .lab (lab_var _)
      · split at h
        · simp only [Option.some.injEq, Prod.mk.injEq] at h
          exact absurd h.2.2.1 (by decide)
        · rename_i h5
          obtain ⟨x, y, ec, hx, hy, hyk⟩ := hc.inv (Classical.not_not.1 h5)
          have hargs : c.args = [x, y] := by rw [ec]; rfl
          rw [hargs] at h
          dsimp only at h
          split at h
          · simp only [Option.some.injEq, Prod.mk.injEq] at h
            obtain ⟨rfl, rfl, _, rfl⟩ := h
            exact ⟨hs, hx, hy, hyk⟩
          · split at h
            · cases h
            · rename_i t1 rest1 e1 σ1 hxx
              simp only [Option.some.injEq, Prod.mk.injEq] at h
              obtain ⟨rfl, rfl, rfl, rfl⟩ := h
              obtain ⟨k1, k2, k3, k4⟩ := extract_qs k label not q σ y _ _ _ hs hy hxx
              exact ⟨k1, k2, .row _ _ _ hx k3 k4, .inr (by show (4 : Int) ≤ 5; decide)⟩
def KeepsQ (f : List Ty → Ty → Ty → Option (Int × List Ty)) : Prop := ∀ (σ : List Ty) (a b : Ty) (τ : List Ty), Gd σ → a.Wf → b.Wf → VIn σ a → VIn σ b → QS σ → Qt a → Qt b → f σ a b = some (0, τ) → QS τ
theorem unifyL_qs {f : List Ty → Ty → Ty → Option (Int × List Ty)} (hf : KeepsQ f) (hs : Sound f) : ∀ (l m σ τ : List Ty), Gd σ → (∀ a ∈ l, a.Wf ∧ VIn σ a ∧ Qt a) → (∀ b ∈ m, b.Wf ∧ VIn σ b ∧ Qt b) → QS σ → unifyL f l m σ = some (0, τ) → QS τ
  | a :: l, b :: m, σ, τ, hg, ha, hb, hq, h => by
    rw [unifyL] at h
    split at h
    · cases h
    · rename_i e σ1 h1
      split at h
      · rename_i h2
        simp only [Option.some.injEq, Prod.mk.injEq] at h
        exact absurd h.1 h2
      · rename_i h2
        obtain rfl : e = 0 := Classical.not_not.1 h2
        obtain ⟨wa, va, qa⟩ := ha a List.mem_cons_self
        obtain ⟨wb, vb, qb⟩ := hb b List.mem_cons_self
        obtain ⟨s1, _⟩ := hs _ _ _ _ hg wa wb va vb h1
        exact unifyL_qs hf hs l m σ1 τ s1.gd (fun x hx => ⟨(ha x (List.mem_cons_of_mem _ hx)).1, s1.vin (ha x (List.mem_cons_of_mem _ hx)).2.1, (ha x (List.mem_cons_of_mem _ hx)).2.2⟩) (fun x hx => ⟨(hb x (List.mem_cons_of_mem _ hx)).1, s1.vin (hb x (List.mem_cons_of_mem _ hx)).2.1, (hb x (List.mem_cons_of_mem _ hx)).2.2⟩) (hf _ _ _ _ hg wa wb va vb hq qa qb h1) h
  | [], _, σ, τ, _, _, _, hq, h => by
    simp only [unifyL, Option.some.injEq, Prod.mk.injEq, true_and] at h
    rw [← h]; exact hq
  | _ :: _, [], σ, τ, _, _, _, hq, h => by
    simp only [unifyL, Option.some.injEq, Prod.mk.injEq, true_and] at h
    rw [← h]; exact hq
theorem unify_qs (k : Nat) : ∀ q : Nat, KeepsQ (unifyP k q)
  | 0 => fun _ _ _ _ _ _ _ _ _ _ _ _ h => by cases h
  | q + 1 => fun σ a b τ hg wa wb va vb hq qa qb h => by
    have ih := unify_qs k q
    have hs := unify_ok k q
    rw [unifyP] at h
    cases h1 : walkP σ k a with
    | none => rw [h1] at h; cases h
    | some a' =>
      rw [h1] at h
      dsimp only at h
      cases h2 : walkP σ k b with
      | none => rw [h2] at h; cases h
      | some b' =>
        rw [h2] at h
        dsimp only at h
        obtain ⟨_, va', oa⟩ := walk_ap hg k a a' va h1
        obtain ⟨_, vb', ob⟩ := walk_ap hg k b b' vb h2
        have wa' := walk_wf hg.wf k a a' wa h1
        have wb' := walk_wf hg.wf k b b' wb h2
        have qa' := walk_qt hq k a a' qa h1
        have qb' := walk_qt hq k b b' qb h2
        split at h
        · exact bind_qs hq qb' h
        · rename_i c1
          split at h
          · exact bind_qs hq qa' h
          · rename_i c2
            split at h
            · rename_i c3
              rw [rowsP] at h
              split at h
              · cases h
              · split at h
                · cases h
                · rename_i t rest e σ1 h3
                  split at h
                  · rename_i h4
                    simp only [Option.some.injEq, Prod.mk.injEq] at h
                    exact absurd h.1 h4
                  · rename_i h4
                    obtain rfl : e = 0 := Classical.not_not.1 h4
                    obtain ⟨s1, w1, w2, _, _⟩ := extract_ok _ _ _ _ _ _ _ _ _ hg wb' vb' h3
                    obtain ⟨v1, v2⟩ := extractP_in _ _ _ _ _ _ _ _ _ _ hg.inn vb' h3 rfl
                    obtain ⟨q1, q2, q3, _⟩ := extract_qs _ _ _ _ _ _ _ _ _ hq qb' h3
                    obtain ⟨x, y, ea, hx, hy, _⟩ := qa'.inv c3.1
                    have hargs : a'.args = [x, y] := by rw [ea]; rfl
                    have hxw := wa'.arg (a := x) (by rw [hargs]; simp)
                    have hyw := wa'.arg (a := y) (by rw [hargs]; simp)
                    have hvx : VIn σ x := va'.arg c1 (by rw [hargs]; simp)
                    have hvy : VIn σ y := va'.arg c1 (by rw [hargs]; simp)
                    rw [hargs] at h
                    dsimp only at h
                    split at h
                    · cases h
                    · rename_i e2 σ2 h5
                      split at h
                      · rename_i h6
                        simp only [Option.some.injEq, Prod.mk.injEq] at h
                        exact absurd h.1 h6
                      · rename_i h6
                        obtain rfl : e2 = 0 := Classical.not_not.1 h6
                        obtain ⟨s2, _⟩ := hs _ _ _ _ s1.gd hxw w1 (s1.vin hvx) v1 h5
                        exact ih _ _ _ _ s2.gd hyw w2 ((s1.trans s2).vin hvy) (s2.vin v2) (ih _ _ _ _ s1.gd hxw w1 (s1.vin hvx) v1 q1 (.lab hx) (.lab q2) h5) hy q3 h
            · rename_i c3
              split at h
              · simp only [Option.some.injEq, Prod.mk.injEq] at h
                exact absurd h.1 (by decide)
              · rename_i c4
                have k1 : a'.kind = b'.kind := Classical.byContradiction fun e => c4 (.inl e)
                have k5 : a'.kind ≠ 5 := fun e => c3 ⟨e, by rw [← k1, e]; decide⟩
                have k5' : b'.kind ≠ 5 := by rw [← k1]; exact k5
                exact unifyL_qs ih hs _ _ _ _ hg (fun x hx => ⟨wa'.arg hx, va'.arg c1 hx, qa'.arg k5 (wa'.arg hx) hx⟩) (fun x hx => ⟨wb'.arg hx, vb'.arg c2 hx, qb'.arg k5' (wb'.arg hx) hx⟩) hq h
/-! ### Unified again nothing changes -/
theorem extract_same (k : Nat) (label : ByteArray) (not : Int) : ∀ (q : Nat) (σ : List Ty) (row t rest : Ty) (e : Int) (τ : List Ty), Gd σ → row.Wf → VIn σ row → cnt label (ap σ row) ≠ 0 → extractP k label not q σ row = some (t, rest, e, τ) → e = 0 ∧ τ = σ
  | 0, _, _, _, _, _, _, _, _, _, _, h => by cases h
  | q + 1, σ, row, t, rest, e, τ, hg, hw, hv, hc, h => by
    rw [extractP] at h
    cases hwk : walkP σ k row with
    | none => rw [hwk] at h; cases h
    | some c =>
      rw [hwk] at h
      dsimp only at h
      obtain ⟨c1, c2, c3⟩ := walk_ap hg k row c hv hwk
      have hcw := walk_wf hg.wf k row c hw hwk
      rw [← c1] at hc
      split at h
      · rename_i h0
        have ho := c3 h0
        have eap := hg.appV_self ho.2.2
        rw [show ((c.var.toNat : Nat) : Int) = c.var by have := ho.1; omega] at eap
        rw [ap_var h0, eap] at hc
        exact absurd (cnt_not (by show (0 : Int) ≠ 5; decide)) hc
      · rename_i h0
        split at h
        · rename_i h5
          exact absurd (cnt_not (by rw [ap_not h0]; exact h5)) hc
        · rename_i h5
          obtain ⟨x, y, ec, hxw, hyw⟩ := row_form hcw (Classical.not_not.1 h5)
          have hargs : c.args = [x, y] := by rw [ec]; rfl
          have hvy : VIn σ y := c2.arg h0 (by rw [hargs]; simp)
          rw [hargs] at h
          dsimp only at h
          split at h
          · simp only [Option.some.injEq, Prod.mk.injEq] at h
            exact ⟨h.2.2.1.symm, h.2.2.2.symm⟩
          · rename_i hnm
            split at h
            · cases h
            · rename_i t1 rest1 e1 σ1 hx
              simp only [Option.some.injEq, Prod.mk.injEq] at h
              obtain ⟨_, _, rfl, rfl⟩ := h
              exact extract_same k label not q σ y _ _ _ _ hg hyw hvy (by rw [ap_row ec, cnt_ext, if_neg hnm] at hc; exact hc) hx
def Idle (f : List Ty → Ty → Ty → Option (Int × List Ty)) : Prop := ∀ (σ : List Ty) (a b : Ty) (e : Int) (τ : List Ty), Gd σ → a.Wf → b.Wf → VIn σ a → VIn σ b → normP (ap σ a) = normP (ap σ b) → f σ a b = some (e, τ) → e = 0 ∧ τ = σ
theorem unifyL_same {f : List Ty → Ty → Ty → Option (Int × List Ty)} (hf : Idle f) : ∀ (l m σ : List Ty) (e : Int) (τ : List Ty), Gd σ → (∀ a ∈ l, a.Wf ∧ VIn σ a) → (∀ b ∈ m, b.Wf ∧ VIn σ b) → l.map (fun a => normP (ap σ a)) = m.map (fun a => normP (ap σ a)) → unifyL f l m σ = some (e, τ) → e = 0 ∧ τ = σ
  | a :: l, b :: m, σ, e, τ, hg, ha, hb, hl, h => by
    simp only [List.map_cons, List.cons.injEq] at hl
    rw [unifyL] at h
    split at h
    · cases h
    · rename_i e1 σ1 h1
      obtain ⟨rfl, rfl⟩ := hf _ _ _ _ _ hg (ha a List.mem_cons_self).1 (hb b List.mem_cons_self).1 (ha a List.mem_cons_self).2 (hb b List.mem_cons_self).2 hl.1 h1
      rw [if_neg (by simp)] at h
      exact unifyL_same hf l m _ e τ hg (fun x hx => ha x (List.mem_cons_of_mem _ hx)) (fun x hx => hb x (List.mem_cons_of_mem _ hx)) hl.2 h
  | [], _, σ, e, τ, _, _, _, _, h => by
    simp only [unifyL, Option.some.injEq, Prod.mk.injEq] at h
    exact ⟨h.1.symm, h.2.symm⟩
  | _ :: _, [], σ, e, τ, _, _, _, _, h => by
    simp only [unifyL, Option.some.injEq, Prod.mk.injEq] at h
    exact ⟨h.1.symm, h.2.symm⟩
theorem bind_same (hg : Gd σ) {k : Nat} {v : Int} {t : Ty} {e : Int} (ht : t.Wf) (ho : t.kind = 0 → Open σ t.var) (heq : varT v = normP (ap σ t)) (h : bindP k σ v t = some (e, τ)) : e = 0 ∧ τ = σ := by
  have h0 : t.kind = 0 := by
    have h1 := norm_kind (hg.apwf ht)
    rw [← heq] at h1
    by_cases h0 : t.kind = 0
    · exact h0
    · rw [ap_not h0] at h1
      exact h1.symm
  have e2 := hg.appV_self (ho h0).2.2
  have hp := (ho h0).1
  rw [show ((t.var.toNat : Nat) : Int) = t.var by omega] at e2
  rw [ap_var h0, e2, normP_not (show (varT t.var).kind ≠ 5 by show (0 : Int) ≠ 5; decide)] at heq
  have hvv : v = t.var := congrArg Ty.var heq
  rw [bindP, if_pos ⟨h0, hvv.symm⟩] at h
  simp only [Option.some.injEq, Prod.mk.injEq] at h
  exact ⟨h.1.symm, h.2.symm⟩
theorem unify_same2 (k : Nat) : ∀ q : Nat, Idle (unifyP k q)
  | 0 => fun _ _ _ _ _ _ _ _ _ _ _ h => by cases h
  | q + 1 => fun σ a b e τ hg wa wb va vb hab h => by
    have ih := unify_same2 k q
    rw [unifyP] at h
    cases h1 : walkP σ k a with
    | none => rw [h1] at h; cases h
    | some a' =>
      rw [h1] at h
      dsimp only at h
      cases h2 : walkP σ k b with
      | none => rw [h2] at h; cases h
      | some b' =>
        rw [h2] at h
        dsimp only at h
        obtain ⟨ea, va', oa⟩ := walk_ap hg k a a' va h1
        obtain ⟨eb, vb', ob⟩ := walk_ap hg k b b' vb h2
        have wa' := walk_wf hg.wf k a a' wa h1
        have wb' := walk_wf hg.wf k b b' wb h2
        rw [← ea, ← eb] at hab
        have hvar : ∀ (t : Ty), t.Wf → t.kind = 0 → Open σ t.var → normP (ap σ t) = varT t.var := fun t hw h0 ho => by
          have e2 := hg.appV_self ho.2.2
          have hp := ho.1
          rw [show ((t.var.toNat : Nat) : Int) = t.var by omega] at e2
          rw [ap_var h0, e2, normP_not (show (varT t.var).kind ≠ 5 by show (0 : Int) ≠ 5; decide)]; rfl
        split at h
        · rename_i c1
          exact bind_same hg wb' ob (by rw [← hab]; exact (hvar a' wa' c1 (oa c1)).symm) h
        · rename_i c1
          split at h
          · rename_i c2
            exact bind_same hg wa' oa (by rw [hab]; exact (hvar b' wb' c2 (ob c2)).symm) h
          · rename_i c2
            have hk : a'.kind = b'.kind := by
              have e1 := norm_kind (hg.apwf wa')
              have e2 := norm_kind (hg.apwf wb')
              rw [hab, e2, ap_not c1, ap_not c2] at e1
              exact e1.symm
            split at h
            · rename_i c3
              rw [rowsP] at h
              split at h
              · cases h
              · split at h
                · cases h
                · rename_i t rest e1 σ1 h3
                  obtain ⟨x, y, ea2, hxw, hyw⟩ := row_form wa' c3.1
                  have hargs : a'.args = [x, y] := by rw [ea2]; rfl
                  have hvx : VIn σ x := va'.arg c1 (by rw [hargs]; simp)
                  have hvy : VIn σ y := va'.arg c1 (by rw [hargs]; simp)
                  have hc : cnt a'.name (ap σ b') ≠ 0 := by
                    rw [← cnt_norm (hg.apwf wa') (hg.apwf wb') hab, ap_row ea2, cnt_ext, if_pos rfl]; omega
                  obtain ⟨rfl, rfl⟩ := extract_same _ _ _ _ _ _ _ _ _ _ hg wb' vb' hc h3
                  obtain ⟨_, w1, w2, i1, _⟩ := extract_ok _ _ _ _ _ _ _ _ _ hg wb' vb' h3
                  obtain ⟨v1, v2⟩ := extractP_in _ _ _ _ _ _ _ _ _ _ hg.inn vb' h3 rfl
                  rw [i1, ap_row ea2] at hab
                  obtain ⟨j1, j2⟩ := norm_ext_inj (hg.apwf hxw) (hg.apwf w1) (hg.apwf hyw) (hg.apwf w2) hab
                  rw [if_neg (by simp), hargs] at h
                  dsimp only at h
                  split at h
                  · cases h
                  · rename_i e2 σ2 h5
                    obtain ⟨rfl, rfl⟩ := ih _ _ _ _ _ hg hxw w1 hvx v1 j1 h5
                    rw [if_neg (by simp)] at h
                    exact ih _ _ _ _ _ hg hyw w2 hvy v2 j2 h
            · rename_i c3
              have k5 : a'.kind ≠ 5 := fun e => c3 ⟨e, by rw [← hk, e]; decide⟩
              have k5' : b'.kind ≠ 5 := by rw [← hk]; exact k5
              have hab2 := hab
              rw [ap_not c1, ap_not c2, normP_not (t := .mk a'.kind a'.name a'.var (a'.args.map (ap σ))) k5, normP_not (t := .mk b'.kind b'.name b'.var (b'.args.map (ap σ))) k5'] at hab2
              have hab3 : Ty.mk a'.kind a'.name a'.var ((a'.args.map (ap σ)).map normP) = Ty.mk b'.kind b'.name b'.var ((b'.args.map (ap σ)).map normP) := hab2
              simp only [Ty.mk.injEq, List.map_map] at hab3
              obtain ⟨_, n2, _, n4⟩ := hab3
              split at h
              · rename_i c4
                have hl := congrArg List.length n4
                rw [List.length_map, List.length_map] at hl
                rcases c4 with c4 | c4 | c4
                · exact absurd hk c4
                · exact absurd n2 c4
                · exact absurd hl c4
              · exact unifyL_same ih _ _ _ _ _ hg (fun x hx => ⟨wa'.arg hx, va'.arg c1 hx⟩) (fun x hx => ⟨wb'.arg hx, vb'.arg c2 hx⟩) n4 h
/-! ### No cycle is found -/
/-- One variable leads to another. -/
inductive Lead (σ : List Ty) : Nat → Nat → Prop
  | refl (v : Nat) : Lead σ v v
  | step (v u : Nat) (w : Int) (hs : selfB σ v = false) (hw : w ∈ freeAt σ v) (h : Lead σ w.toNat u) : Lead σ v u
theorem Lead.snoc {v u : Nat} {w : Int} (h : Lead σ v u) (hs : selfB σ u = false) (hw : w ∈ freeAt σ u) : Lead σ v w.toNat := by
  induction h with
  | refl v => exact .step _ _ w hs hw (.refl _)
  | step v u x hs' hx _ ih => exact .step _ _ x hs' hx (ih hs hw)
theorem acy_lead {v : Nat} (h : Acy σ v) : selfB σ v = false → ∀ w ∈ freeAt σ v, ¬ Lead σ w.toNat v := by
  induction h with
  | self v h => intro hs; rw [h] at hs; cases hs
  | node v h ih =>
    intro hs w hw hl
    cases hl with
    | refl =>
      exact ih w hw (by first | exact hs | assumption) w (by first | exact hw | assumption) (.refl _)
    | step _ _ x hs' hx hl2 => exact ih w hw hs' x hx (hl2.snoc hs hw)
/-- The variables on the way do not lie ahead. -/
def Clear (σ : List Ty) (st : List Int) (v : Nat) : Prop := ∀ u, st.getD u 0 = 1 → ¬ Lead σ v u
theorem cycL_no {f : List Int → Nat → Option (Bool × List Int)} : ∀ (l st st' : List Int) (b : Bool), (∀ w ∈ l, ∀ st b st', Clear σ st w.toNat → f st w.toNat = some (b, st') → b = false ∧ ∀ u, st'.getD u 0 = 1 → st.getD u 0 = 1) → (∀ w ∈ l, Clear σ st w.toNat) → cycL f l st = some (b, st') → b = false ∧ ∀ u, st'.getD u 0 = 1 → st.getD u 0 = 1
  | [], st, st', b, _, _, h => by
    simp only [cycL, Option.some.injEq, Prod.mk.injEq] at h
    rw [← h.1, ← h.2]
    exact ⟨rfl, fun _ h => h⟩
  | x :: l, st, st', b, hf, hc, h => by
    rw [cycL] at h
    split at h
    · cases h
    · rename_i s1 h1
      exact absurd (hf x List.mem_cons_self st true s1 (hc x List.mem_cons_self) h1).1 (by decide)
    · rename_i s1 h1
      obtain ⟨_, k2⟩ := hf x List.mem_cons_self st false s1 (hc x List.mem_cons_self) h1
      obtain ⟨j1, j2⟩ := cycL_no l s1 st' b (fun w hw => hf w (List.mem_cons_of_mem _ hw)) (fun w hw u hu => hc w (List.mem_cons_of_mem _ hw) u (k2 u hu)) h
      exact ⟨j1, fun u hu => k2 u (j2 u hu)⟩
theorem cyc_no (ha : ∀ v, Acy σ v → True) : ∀ (n : Nat) (v : Nat), Acy σ v → ∀ (st : List Int) (b : Bool) (st' : List Int), Clear σ st v → cyc σ n st v = some (b, st') → b = false ∧ ∀ u, st'.getD u 0 = 1 → st.getD u 0 = 1
  | 0, _, _, _, _, _, _, h => by cases h
  | n + 1, v, hv, st, b, st', hc, h => by
    rw [cyc] at h
    split at h
    · rename_i h1
      simp only [Option.some.injEq, Prod.mk.injEq] at h
      have h2 : ¬ st.getD v 0 = 1 := fun e => hc v e (.refl v)
      rw [← h.1, ← h.2]
      exact ⟨decide_eq_false h2, fun _ h => h⟩
    · rename_i h1
      have hs : selfB σ v = false := by
        cases hb : selfB σ v with
        | false => rfl
        | true => exact absurd (.inr hb) h1
      have hch : ∀ w ∈ freeAt σ v, Acy σ w.toNat := by
        cases hv with
        | self _ h => rw [h] at hs; cases hs
        | node _ h => exact h
      split at h
      · cases h
      · rename_i s1 h2
        have := (cycL_no (σ := σ) _ _ _ _ (fun w hw st b st' hc h => cyc_no ha n w.toNat (hch w hw) st b st' hc h) (fun w hw u hu hl => by
          rw [getD_set] at hu
          split at hu
          · rename_i h3
            rw [← h3.1] at hl
            exact acy_lead hv hs w hw hl
          · exact hc u hu (.step _ _ w hs hw hl)) h2).1
        exact absurd this (by decide)
      · rename_i s1 h2
        simp only [Option.some.injEq, Prod.mk.injEq] at h
        obtain ⟨_, k2⟩ := cycL_no (σ := σ) _ _ _ _ (fun w hw st b st' hc h => cyc_no ha n w.toNat (hch w hw) st b st' hc h) (fun w hw u hu hl => by
          rw [getD_set] at hu
          split at hu
          · rename_i h3
            rw [← h3.1] at hl
            exact acy_lead hv hs w hw hl
          · exact hc u hu (.step _ _ w hs hw hl)) h2
        rw [← h.1, ← h.2]
        refine ⟨rfl, fun u hu => ?_⟩
        rw [getD_set] at hu
        split at hu
        · exact absurd hu (by decide)
        · rename_i h3
          have h4 := k2 u hu
          rw [getD_set] at h4
          split at h4
          · rename_i h5
            by_cases hlt : u < s1.length
            · exact absurd ⟨h5.1, hlt⟩ h3
            · rw [List.getD_eq_getElem?_getD, List.getElem?_eq_none (by omega)] at hu
              exact absurd hu (by decide)
          · exact h4
theorem cycS_no (ha : ∀ v, v < σ.length → Acy σ v) {k : Nat} : ∀ (l : List Nat) (st : List Int) (b : Bool), (∀ v ∈ l, v < σ.length) → (∀ u, ¬ st.getD u 0 = 1) → cycS σ k l st = some b → b = false
  | [], _, b, _, _, h => by rw [cycS] at h; exact (Option.some.inj h).symm
  | x :: l, st, b, hl, hz, h => by
    rw [cycS] at h
    split at h
    · cases h
    · rename_i s1 h1
      exact absurd (cyc_no (fun _ _ => trivial) k x (ha x (hl x List.mem_cons_self)) st _ _ (fun u hu => absurd hu (hz u)) h1).1 (by decide)
    · rename_i s1 h1
      obtain ⟨_, k2⟩ := cyc_no (fun _ _ => trivial) k x (ha x (hl x List.mem_cons_self)) st _ _ (fun u hu => absurd hu (hz u)) h1
      exact cycS_no ha l s1 b (fun v hv => hl v (List.mem_cons_of_mem _ hv)) (fun u hu => hz u (k2 u hu)) h
end
end Go.Proofs.YthchnabhbpdfgaaDoor
end

section
namespace Go.Proofs.YthchnabhbpdfgaaDoor
open Go.RowKit Go.Shelf Go.Sort Stab

section
variable {S : Nat} {σ τ : List Ty} {a b : Ty}
theorem sp_fold (e : Ty) : ∀ L : List (ByteArray × Ty), sp (foldX L e) = L.length + sp e
  | [] => by show sp e = 0 + sp e; omega
  | p :: L => by
    show sp (extT p.1 p.2 (foldX L e)) = _
    rw [sp_ext, sp_fold e L, List.length_cons]; omega
theorem short_fold {e : Ty} : ∀ L : List (ByteArray × Ty), Short S (foldX L e) → (∀ p ∈ L, Short S p.2) ∧ Short S e
  | [], h => ⟨fun p hp => (by cases hp), h⟩
  | q :: L, h => by
    have h' : Short S (extT q.1 q.2 (foldX L e)) := h
    obtain ⟨h3, h4⟩ := short_fold (e := e) L (h'.arg (a := foldX L e) (by simp [extT, Ty.args]))
    refine ⟨fun p hp => ?_, h4⟩
    rcases List.mem_cons.1 hp with rfl | hp
    · exact h'.arg (a := p.2) (by simp [extT, Ty.args])
    · exact h3 p hp
theorem fold_short {e : Ty} (he : Short S e) : ∀ L : List (ByteArray × Ty), (∀ p ∈ L, Short S p.2) → L.length + sp e ≤ S → Short S (foldX L e)
  | [], _, _ => he
  | q :: L, hL, h => by
    rw [List.length_cons] at h
    have ih := fold_short he L (fun p hp => hL p (List.mem_cons_of_mem _ hp)) (by omega)
    refine .mk _ ?_ fun a ha => ?_
    · show sp (extT q.1 q.2 (foldX L e)) ≤ S
      rw [sp_ext, sp_fold]; omega
    · have ha : a ∈ (extT q.1 q.2 (foldX L e)).args := ha
      have ha' : a = q.2 ∨ a = foldX L e := by simpa [extT, Ty.args] using ha
      rcases ha' with rfl | rfl
      · exact hL q List.mem_cons_self
      · exact ih
theorem norm_extRow (l : ByteArray) (u r : Ty) : normP (extT l u r) = foldX (isort ltL ((l, normP u) :: (rowP r).1)) (rowP r).2 := by
  unfold normP fin
  rw [rowP_extT]
  rfl
theorem norm_self (r : Ty) : normP r = foldX (isort ltL (rowP r).1) (rowP r).2 := rfl
theorem sp_end {t : Ty} (h : t.Wf) : sp (rowP t).2 = 0 := sp_not (row_end h.nok)
theorem sp_norm {t : Ty} (h : t.Wf) : sp (normP t) = sp t := by rw [norm_self, sp_fold, sp_end h, (nisort_perm _).length_eq]; rfl
theorem short_norm (t : Ty) : t.Wf → Short S t → (∀ p ∈ (rowP t).1, Short S p.2) ∧ Short S (rowP t).2 ∧ Short S (normP t) := by
  refine ty_ind (P := fun t => t.Wf → Short S t → (∀ p ∈ (rowP t).1, Short S p.2) ∧ Short S (rowP t).2 ∧ Short S (normP t)) (fun t ih hw hs => ?_) t
  by_cases h5 : t.kind = 5
  · obtain ⟨x, y, e, hx, hy⟩ := row_form hw h5
    obtain ⟨nm, hnm⟩ : ∃ nm, t.name = nm := ⟨_, rfl⟩
    rw [hnm] at e
    subst e
    have i1 := ih x (by simp [extT, Ty.args]) hx (hs.arg (by simp [extT, Ty.args]))
    have i2 := ih y (by simp [extT, Ty.args]) hy (hs.arg (by simp [extT, Ty.args]))
    have hL : ∀ p ∈ (nm, normP x) :: (rowP y).1, Short S p.2 := fun p hp => by
      rcases List.mem_cons.1 hp with rfl | hp
      · exact i1.2.2
      · exact i2.1 p hp
    have ht := hs.top
    rw [sp_ext] at ht
    rw [rowP_extT, norm_extRow]
    refine ⟨hL, i2.2.1, fold_short i2.2.1 _ (fun p hp => hL p ((nisort_perm _).mem_iff.1 hp)) ?_⟩
    rw [(nisort_perm _).length_eq, sp_end hy, List.length_cons]
    have : sp y = (rowP y).1.length := rfl
    omega
  · have hm : Short S (.mk t.kind t.name t.var (t.args.map normP)) := by
      refine .mk _ (by rw [sp_not (t := .mk t.kind t.name t.var (t.args.map normP)) h5]; exact Nat.zero_le _) fun a ha => ?_
      obtain ⟨c, hc, rfl⟩ := List.mem_map.1 ha
      exact (ih c hc (hw.arg hc) (hs.arg hc)).2.2
    rw [rowP_not h5, normP_not h5]
    exact ⟨fun p hp => (by cases hp), hm, hm⟩
theorem down_short (S : Nat) : Down (fun t => Short S (normP t)) := fun t u r l _ hu hr he hs => by
  have hs : Short S (normP t) := hs
  rw [he, norm_extRow] at hs
  obtain ⟨h1, h2⟩ := short_fold _ hs
  have ht := hs.top
  rw [sp_fold, (nisort_perm _).length_eq, List.length_cons] at ht
  refine ⟨h1 (l, normP u) ((nisort_perm _).mem_iff.2 List.mem_cons_self), ?_⟩
  show Short S (normP r)
  rw [norm_self]
  exact fold_short h2 _ (fun p hp => h1 p ((nisort_perm _).mem_iff.2 (List.mem_cons_of_mem _ ((nisort_perm _).mem_iff.1 hp)))) (by rw [(nisort_perm _).length_eq]; omega)
theorem sp_dep (t : Ty) : t.Wf → sp t + 1 ≤ dep t := by
  refine row_ind (P := fun t => sp t + 1 ≤ dep t) (fun t _ h5 => by rw [sp_not h5, dep_eq]; omega) (fun l x r _ _ ih => by rw [sp_ext, dep_ext]; omega) t
theorem fit_dep (t : Ty) : t.Wf → dep t ≤ 25 → Fit (fun _ => 24) 24 t := by
  refine ty_ind (P := fun t => t.Wf → dep t ≤ 25 → Fit (fun _ => 24) 24 t) (fun t ih hw hd => ?_) t
  refine .mk _ ?_ fun a ha => ih a ha (hw.arg ha) (by have := dep_arg ha; omega)
  have := sp_dep t hw
  unfold wt
  split
  · show sp t ≤ 24; omega
  · omega
theorem tyErr_kd {n : Nat} {t : Ty} (h : tyErr n t = 0) : Kd t := by
  unfold tyErr at h
  split at h
  · rename_i h2; exact absurd h h2
  · rename_i h2
    exact (chk_kd t _ _ _ (Classical.not_not.1 h2)).1
theorem tyErr_more {n n' : Nat} {t : Ty} (h : tyErr n t = 0) (hn : n ≤ n') : tyErr n' t = 0 := by
  have hf := (tyErr_ok h).2
  unfold tyErr at h ⊢
  split at h
  · rename_i h2; exact absurd h h2
  · rename_i h2
    rw [if_neg h2, if_neg]
    intro ha
    obtain ⟨v, hv1, hv2⟩ := List.any_eq_true.1 ha
    have := of_decide_eq_true hv2
    have := hf v hv1
    omega
/-- A solution with short rows. -/
theorem small_law (ho : UOut (idS 12) τ a b) (ha : dep a ≤ 25) (hb : dep b ≤ 25) : ∃ X : Int → Ty, (∀ v, (X v).Wf) ∧ normP (subT X a) = normP (subT X b) ∧ ∀ v, Short 312 (X v) := by
  have hV : ∀ t : Ty, VIn (idS 12) t → ∀ v ∈ freeP t, v ∈ ([0, 1, 2, 3, 4, 5, 6, 7, 8, 9, 10, 11] : List Int) := fun t hv v hvt => by
    have h := hv v hvt
    rw [idS_len] at h
    have h1 : 0 ≤ v := h.1
    have h2 : v < 12 := h.2
    have : v = 0 ∨ v = 1 ∨ v = 2 ∨ v = 3 ∨ v = 4 ∨ v = 5 ∨ v = 6 ∨ v = 7 ∨ v = 8 ∨ v = 9 ∨ v = 10 ∨ v = 11 := by omega
    simpa using this
  obtain ⟨X, hX⟩ := claim_all 312 12 (szG (appV τ) [(a, b)]) [0, 1, 2, 3, 4, 5, 6, 7, 8, 9, 10, 11] [(a, b)] (appV τ) (fun _ => 24) 24 0
    ⟨by decide, by decide, fun p hp v hv => by
      rw [List.mem_singleton.1 hp] at hv
      exact hv.elim (hV a ho.inn.va v) (hV b ho.inn.vb v), fun p hp => by
      rw [List.mem_singleton.1 hp]; exact ⟨ho.inn.wa, ho.inn.wb⟩, appV_wf ho.gd.wf, fun p hp => by
      rw [List.mem_singleton.1 hp]; exact ho.same, fun p hp => by
      rw [List.mem_singleton.1 hp]; exact ⟨fit_dep a ho.inn.wa ha, fit_dep b ho.inn.wb hb⟩⟩ (Nat.le_refl _) (Nat.le_refl _) debt_zero (by decide)
  exact ⟨X, hX.wf, hX.slv (a, b) List.mem_cons_self, hX.short⟩
theorem cycS_up {k k' : Nat} {l : List Nat} {st : List Int} {r : Bool} (h : cycS σ k l st = some r) (hk : k ≤ k') : cycS σ k' l st = some r := by
  induction hk with
  | refl => exact h
  | step _ ih => exact cycS_mono _ _ _ ih
/-- What Unify leaves is accepted. -/
theorem checked_again {k q : Nat} (h : unifyS k q (idS 12) a b = some (0, τ)) (ha : dep a ≤ 25) (hb : dep b ≤ 25) : ∃ K, subC τ K = some 0 := by
  have ho := unifyS_out h
  have hg := ho.gd
  obtain ⟨_, hu⟩ := unifyS_ok h
  have hq0 : QS (idS 12) := fun x hx => by
    unfold idS at hx
    obtain ⟨i, _, rfl⟩ := List.mem_map.1 hx
    exact .lab (lab_var _)
  have hq := unify_qs k q _ _ _ _ ho.inn.fine.gd ho.inn.wa ho.inn.wb ho.inn.va ho.inn.vb hq0 (.of a ho.inn.wa (tyErr_kd ho.inn.a) ha) (.of b ho.inn.wb (tyErr_kd ho.inn.b) hb) hu
  obtain ⟨X, wX, eX, sX⟩ := small_law ho ha hb
  have hS0 : Sol X (idS 12) := ⟨wX, fun v x hx => by
    have hv : v < 12 := by
      rcases Nat.lt_or_ge v 12 with h | h
      · exact h
      · rw [List.getElem?_eq_none (by rw [idS_len]; exact h)] at hx; cases hx
    rw [idS_get hv] at hx
    rw [← Option.some.inj hx, subT_var rfl]; rfl⟩
  obtain ⟨X', _, S', P'⟩ := (unify_cmp (down_short 312) k q (idS 12) X a b 0 τ ho.inn.fine.gd hS0 ho.inn.wa ho.inn.wb ho.inn.va ho.inn.vb eX hu).2 rfl
  have hP : ∀ v, Short 312 (normP (X' v)) := P' fun v => (short_norm (X v) (wX v) (sX v)).2.2
  have hent : ∀ x ∈ τ, tyErr τ.length x = 0 := fun x hx => by
    obtain ⟨u, hu2, e⟩ := List.mem_iff_getElem.1 hx
    have hx2 : τ[u]? = some x := by rw [List.getElem?_eq_getElem hu2, e]
    have hxw := hg.wf x hx
    have hVx : VIn τ x := fun v hv => hg.inn x hx v hv
    have h1 := S'.eq u x hx2
    have h2 := (hP (u : Int)).top
    rw [h1, sp_norm (subT_wf S'.wf x hxw), sp_sub X' x hxw] at h2
    have h3 := (hq x hx).dep
    have h4 := ho.szd.ent hg x hx
    have hl := hg.len
    have hc := chk_ok x 4096 (decide (4 ≤ x.kind)) 1 hxw (hq x hx).kd (fun v hv => by have := hVx v hv; omega) (.inr rfl) (by omega) (by omega)
    unfold tyErr
    rw [hc, if_neg (by simp), if_neg]
    intro hany
    obtain ⟨v, hv1, hv2⟩ := List.any_eq_true.1 hany
    have := of_decide_eq_true hv2
    have := hVx v hv1
    omega
  have hz : zeros (List.replicate τ.length 0) ≤ τ.length := by
    unfold zeros
    have := List.countP_le_length (p := fun x : Int => decide (x ≤ 0)) (l := List.replicate τ.length 0)
    rwa [List.length_replicate] at this
  obtain ⟨bb, hbb⟩ := cycS_total hg.inn τ.length (List.range τ.length) (List.replicate τ.length 0) hz List.length_replicate (fun v hv => List.mem_range.1 hv)
  obtain rfl := cycS_no hg.acy _ _ _ (fun v hv => List.mem_range.1 hv) (fun u hu => by
    rw [List.getD_eq_getElem?_getD, List.getElem?_replicate] at hu
    split at hu <;> exact absurd hu (by decide)) hbb
  obtain ⟨k2, hk2⟩ := ho.szd
  refine ⟨max (τ.length + 1) k2, ?_⟩
  rw [subC, if_neg (by have := hg.len; omega), tysErr_zero _ hent, if_neg (by simp), cycS_up hbb (Nat.le_max_left _ _)]
  exact sized_up hk2 (Nat.le_max_right _ _)
/-- Unified again nothing changes. -/
theorem again {k q : Nat} (h : unifyS k q (idS 12) a b = some (0, τ)) (ha : dep a ≤ 25) (hb : dep b ≤ 25) : ∃ k q, unifyS k q τ a b = some (0, τ) := by
  have ho := unifyS_out h
  obtain ⟨K, hK⟩ := checked_again h ha hb
  have hl := ho.step.keep.len
  have hi : UIn τ a b := ⟨subC_fine hK, ho.szd, tyErr_more ho.inn.a hl, tyErr_more ho.inn.b hl⟩
  obtain ⟨k2, q2, ⟨e, υ⟩, hu⟩ := unify_total ho.gd hi.wa hi.wb hi.va hi.vb
  obtain ⟨rfl, rfl⟩ := unify_same2 k2 q2 _ _ _ _ _ ho.gd hi.wa hi.wb hi.va hi.vb ho.same hu
  exact ⟨_, q2, hi.run hK hu⟩
end
end Go.Proofs.YthchnabhbpdfgaaDoor
end
