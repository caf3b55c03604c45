/- What solves a substitution: Apply does not matter under it; labels of rows; a variable bound. No program in sight. The unifier finds what solves: where there is a solution it finds no error but 'too large', and the solution goes on. No program in sight. -/
import Derived.Test.YthchnabhbpdfgaaDoorMSnd2
section
namespace Go.Proofs.YthchnabhbpdfgaaDoor
open Go.RowKit Go.Shelf Go.Sort Stab

section
variable {σ τ υ : List Ty} {X : Int → Ty}
/-- X makes each variable equal to what replaces it. -/
structure Sol (X : Int → Ty) (σ : List Ty) : Prop where
  wf : ∀ v, (X v).Wf
  eq : ∀ (v : Nat) (x : Ty), σ[v]? = some x → normP (X (v : Int)) = normP (subT X x)
theorem Sol.appV (h : Sol X σ) (hg : Gd σ) {v : Nat} (ha : Acy σ v) : normP (subT X (Go.Proofs.YthchnabhbpdfgaaDoor.appV σ (v : Int))) = normP (X (v : Int)) := by
  induction ha with
  | self v hs => rw [hg.appV_self hs, subT_var rfl]; rfl
  | node v hn ih =>
    cases hs : selfB σ v with
    | true => rw [hg.appV_self hs, subT_var rfl]; rfl
    | false =>
      cases hx : σ[v]? with
      | none =>
        have h1 : Go.Proofs.YthchnabhbpdfgaaDoor.appV σ (v : Int) = varT (v : Int) := appV_ends (ends_leaf (varT_wf (by omega)) rfl (.inr (by
          show σ[((v : Int)).toNat]? = none
          rw [Int.toNat_natCast]; exact hx)))
        rw [h1, subT_var rfl]; rfl
      | some x =>
        have hfr : freeAt σ v = freeP x := by unfold freeAt; rw [hx]
        have hxw := hg.wf x (List.mem_of_getElem? hx)
        rw [hg.appV_to hx hs, h.eq v x hx]
        unfold ap
        rw [subT_subT]
        refine norm_congr (fun u => subT_wf h.wf _ (appV_wf hg.wf u)) h.wf x hxw fun u hu => ?_
        have hu0 := (hg.inn x (List.mem_of_getElem? hx) u hu).1
        have := ih u (by rw [hfr]; exact hu)
        rw [show ((u.toNat : Nat) : Int) = u by omega] at this
        exact this
/-- Apply does not matter under a solution. -/
theorem Sol.ap (h : Sol X σ) (hg : Gd σ) {t : Ty} (hw : t.Wf) (hv : VIn σ t) : normP (subT X (Go.Proofs.YthchnabhbpdfgaaDoor.ap σ t)) = normP (subT X t) := by
  unfold Go.Proofs.YthchnabhbpdfgaaDoor.ap
  rw [subT_subT]
  refine norm_congr (fun u => subT_wf h.wf _ (appV_wf hg.wf u)) h.wf t hw fun u hu => ?_
  have hu0 := hv u hu
  have := h.appV hg (hg.acy u.toNat (by omega))
  rw [show ((u.toNat : Nat) : Int) = u by omega] at this
  exact this
theorem Sol.walk (h : Sol X σ) (hg : Gd σ) {k : Nat} {t r : Ty} (hw : t.Wf) (hv : VIn σ t) (e : walkP σ k t = some r) : normP (subT X r) = normP (subT X t) := by
  obtain ⟨h1, h2, _⟩ := walk_ap hg k t r hv e
  rw [← h.ap hg (walk_wf hg.wf k t r hw e) h2, h1, h.ap hg hw hv]
/-- The substitution itself, as a solution. -/
theorem sol_self (hg : Gd σ) : Sol (Go.Proofs.YthchnabhbpdfgaaDoor.appV σ) σ := by
  refine ⟨appV_wf hg.wf, fun v x hx => ?_⟩
  have hv : v < σ.length := by
    rcases Nat.lt_or_ge v σ.length with h | h
    · exact h
    · rw [List.getElem?_eq_none h] at hx; cases hx
  cases hs : selfB σ v with
  | true =>
    obtain ⟨y, hy, h1, h2⟩ := selfB_iff.1 hs
    rw [hx] at hy
    cases hy
    rw [subT_var h1, h2]
  | false => rw [hg.appV_to hx hs]; rfl
theorem nodes_norm {t : Ty} (h : t.Wf) : nodes (normP t) = nodes t := (norm_law h.nok).2.1
theorem nodes_of_norm {t u : Ty} (ht : t.Wf) (hu : u.Wf) (h : normP t = normP u) : nodes t = nodes u := by rw [← nodes_norm ht, h, nodes_norm hu]
theorem norm_free {t : Ty} (h : t.Wf) (v : Int) : v ∈ freeP (normP t) ↔ v ∈ freeP t := ((row_ok _ t rfl h.nok).good).2.2 v
theorem nodes_free {X : Int → Ty} {v : Int} (t : Ty) : v ∈ freeP t → nodes (X v) ≤ nodes (subT X t) ∧ (t.kind ≠ 0 → nodes (X v) < nodes (subT X t)) := by
  refine ty_ind (P := fun t => v ∈ freeP t → nodes (X v) ≤ nodes (subT X t) ∧ (t.kind ≠ 0 → nodes (X v) < nodes (subT X t))) (fun t ih hv => ?_) t
  by_cases h0 : t.kind = 0
  · rw [freeP_var h0, List.mem_singleton] at hv
    rw [subT_var h0, hv]
    exact ⟨Nat.le_refl _, fun h => absurd h0 h⟩
  · obtain ⟨a, ha, hva⟩ := (freeP_args h0).1 hv
    have h1 := (ih a ha hva).1
    have h2 : nodes (subT X a) < nodes (subT X t) := by
      rw [subT_not h0]
      exact nodes_arg (t := .mk t.kind t.name t.var (t.args.map (subT X))) (List.mem_map.2 ⟨a, ha, rfl⟩)
    exact ⟨by omega, fun _ => by omega⟩
/-! ### The occurs check finds a variable only where it is -/
theorem occL_yes {f : List Bool → Ty → Option (Bool × List Bool)} : ∀ (l : List Ty) (s s' : List Bool), occL f l s = some (true, s') → ∃ a ∈ l, ∃ s s', f s a = some (true, s')
  | [], s, s', h => by simp [occL] at h
  | a :: r, s, s', h => by
    rw [occL] at h
    split at h
    · cases h
    · rename_i s1 h1
      exact ⟨a, List.mem_cons_self, _, _, h1⟩
    · obtain ⟨b, hb, x⟩ := occL_yes r _ s' h
      exact ⟨b, List.mem_cons_of_mem _ hb, x⟩
theorem occ_yes_free (hg : Gd σ) {v : Int} (hv : Open σ v) : ∀ (k : Nat) (s s' : List Bool) (t : Ty), VIn σ t → occP σ v k s t = some (true, s') → v ∈ freeP (Go.Proofs.YthchnabhbpdfgaaDoor.ap σ t)
  | 0, _, _, _, _, h => by cases h
  | k + 1, s, s', t, hV, h => by
    rw [occP] at h
    by_cases h0 : t.kind = 0
    · rw [if_pos h0] at h
      have hvt := hV t.var (by rw [freeP_var h0]; exact List.mem_singleton.2 rfl)
      split at h
      · simp only [Option.some.injEq, Prod.mk.injEq, decide_eq_true_eq] at h
        have e := hg.appV_self hv.2.2
        rw [show ((v.toNat : Nat) : Int) = v by have := hv.1; omega] at e
        rw [ap_var h0, h.1, e, freeP_var rfl]
        exact List.mem_singleton.2 rfl
      · split at h
        · cases h
        · rename_i x hx
          split at h
          · rename_i hn
            have hsb : selfB σ t.var.toNat = false := by
              cases hb : selfB σ t.var.toNat with
              | false => rfl
              | true =>
                obtain ⟨y, hy, h1, h2⟩ := selfB_iff.1 hb
                rw [hx] at hy; cases hy
                rcases hn with hn | hn
                · exact absurd h1 hn
                · exact absurd (by rw [h2]; omega) hn
            have e := hg.appV_to hx hsb
            rw [show ((t.var.toNat : Nat) : Int) = t.var by omega] at e
            rw [ap_var h0, e]
            exact occ_yes_free hg hv k _ s' x (fun w hw => hg.inn x (List.mem_of_getElem? hx) w hw) h
          · simp at h
    · rw [if_neg h0] at h
      obtain ⟨a, ha, s1, s2, h1⟩ := occL_yes _ _ _ h
      have h2 := occ_yes_free hg hv k s1 s2 a (hV.arg h0 ha) h1
      rw [ap_not h0]
      exact (freeP_args (t := Ty.mk t.kind t.name t.var (t.args.map (Go.Proofs.YthchnabhbpdfgaaDoor.ap σ))) h0).2 ⟨_, List.mem_map.2 ⟨a, ha, rfl⟩, h2⟩
theorem sizedL_two {k : Nat} : ∀ (l : List Nat) (of : List Int) (r : Int), sizedL σ k l of = some r → r = 0 ∨ r = 2
  | [], _, r, h => by rw [sizedL] at h; exact .inl (Option.some.inj h).symm
  | v :: l, of, r, h => by
    rw [sizedL] at h
    split at h
    · cases h
    · split at h
      · exact .inr (Option.some.inj h).symm
      · exact sizedL_two l _ r h
theorem sized_two {k : Nat} {r : Int} (h : sizedP σ k = some r) : r = 0 ∨ r = 2 := sizedL_two _ _ _ h
theorem Sol.set (h : Sol X σ) {v : Nat} {t : Ty} (e : normP (X (v : Int)) = normP (subT X t)) : Sol X (σ.set v t) := ⟨h.wf, fun u x hx => by
  by_cases hu : v = u
  · subst hu
    by_cases hl : v < σ.length
    · rw [List.getElem?_set_self hl] at hx
      rw [← Option.some.inj hx]; exact e
    · rw [List.getElem?_eq_none (by rw [List.length_set]; omega)] at hx; cases hx
  · rw [List.getElem?_set_ne hu] at hx
    exact h.eq u x hx⟩
/-- Where a solution makes a variable equal to a type, the variable is bound, or the types are too large. -/
theorem bind_cmp (hg : Gd σ) (h : Sol X σ) {k : Nat} {v : Int} (hv : Open σ v) {t : Ty} (ht : t.Wf) (hV : VIn σ t) (ho : t.kind = 0 → Open σ t.var) (e : normP (X v) = normP (subT X t)) {r : Int} (hb : bindP k σ v t = some (r, τ)) : (r = 0 ∨ r = 2) ∧ (r = 0 → Sol X τ) := by
  have hvc : ((v.toNat : Nat) : Int) = v := by have := hv.1; omega
  rw [bindP] at hb
  split at hb
  · simp only [Option.some.injEq, Prod.mk.injEq] at hb
    exact ⟨.inl hb.1.symm, fun _ => by rw [← hb.2]; exact h⟩
  · rename_i hn
    split at hb
    · cases hb
    · rename_i s1 h1
      have hf := occ_yes_free hg hv _ _ _ _ hV h1
      by_cases h0 : t.kind = 0
      · have e2 := hg.appV_self (ho h0).2.2
        rw [show ((t.var.toNat : Nat) : Int) = t.var by have := (ho h0).1; omega] at e2
        rw [ap_var h0, e2, freeP_var rfl, List.mem_singleton] at hf
        exact absurd ⟨h0, hf.symm⟩ hn
      · have h2 := (nodes_free (X := X) _ hf).2 (by rw [ap_not h0]; exact h0)
        have h3 := nodes_of_norm (subT_wf h.wf _ (hg.apwf ht)) (subT_wf h.wf _ ht) (h.ap hg ht hV)
        have h4 := nodes_of_norm (h.wf v) (subT_wf h.wf _ ht) e
        omega
    · split at hb
      · cases hb
      · rename_i e1 h2
        simp only [Option.some.injEq, Prod.mk.injEq] at hb
        rw [← hb.1, ← hb.2]
        exact ⟨sized_two h2, fun _ => h.set (by rw [hvc]; exact e)⟩
/-! ### Labels of rows -/
/-- How often a row has a label. -/
def cnt (n : ByteArray) (t : Ty) : Nat := (fl n (rowP t).1).length
theorem cnt_norm {n : ByteArray} {t u : Ty} (ht : t.Wf) (hu : u.Wf) (h : normP t = normP u) : cnt n t = cnt n u := by
  unfold cnt
  rw [((eqv_iff ht.nok hu.nok).1 h).1 n]
theorem cnt_ext (n l : ByteArray) (x y : Ty) : cnt n (extT l x y) = cnt n y + (if l = n then 1 else 0) := by
  unfold cnt
  rw [rowP_extT]
  dsimp only
  rw [fl_cons]
  split <;> simp
theorem cnt_not {n : ByteArray} {t : Ty} (h5 : t.kind ≠ 5) : cnt n t = 0 := by unfold cnt; rw [rowP_not h5]; rfl
/-- The end of a row, as it stands. -/
def rowEnd (t : Ty) : Ty := (rowP t).2
theorem rowEnd_ext (l : ByteArray) (x y : Ty) : rowEnd (extT l x y) = rowEnd y := by unfold rowEnd; rw [rowP_extT]
theorem rowEnd_var {t : Ty} (hw : t.Wf) (h0 : t.kind = 0) : rowEnd t = t := by
  unfold rowEnd
  rw [rowP_not (by rw [h0]; decide), hw.leaf (.inl h0)]
  have := hw.leaf (.inl h0)
  cases t with | mk k n v l => simp only [Ty.args] at this; subst this; rfl
/-- Labels of a row in which variables were replaced. -/
theorem cnt_sub (n : ByteArray) (t : Ty) : t.Wf → cnt n (subT X t) = cnt n t + cnt n (subT X (rowEnd t)) := by
  refine ty_ind (P := fun t => t.Wf → cnt n (subT X t) = cnt n t + cnt n (subT X (rowEnd t))) (fun t ih hw => ?_) t
  by_cases h5 : t.kind = 5
  · obtain ⟨x, y, e, hx, hy⟩ := row_form hw h5
    have hi := ih y (by rw [e]; simp [extT, Ty.args]) hy
    generalize t.name = nm at e
    subst e
    rw [subT_ext, cnt_ext, cnt_ext, rowEnd_ext, hi]
    omega
  · rw [cnt_not h5]
    by_cases h0 : t.kind = 0
    · rw [rowEnd_var hw h0]; omega
    · have hk : (rowEnd t).kind = t.kind := by unfold rowEnd; rw [rowP_not h5]; rfl
      rw [subT_not h0, subT_not (t := rowEnd t) (by rw [hk]; exact h0)]
      rw [cnt_not (t := .mk t.kind t.name t.var (t.args.map (subT X))) h5, cnt_not (t := .mk (rowEnd t).kind (rowEnd t).name (rowEnd t).var ((rowEnd t).args.map (subT X))) (by show (rowEnd t).kind ≠ 5; rw [hk]; exact h5)]
/-- A label taken off a row. -/
theorem pick (label : ByteArray) (t : Ty) : t.Wf → cnt label t ≠ 0 → ∃ u r, u.Wf ∧ r.Wf ∧ normP t = normP (extT label u r) := by
  refine ty_ind (P := fun t => t.Wf → cnt label t ≠ 0 → ∃ u r, u.Wf ∧ r.Wf ∧ normP t = normP (extT label u r)) (fun t ih hw hc => ?_) t
  by_cases h5 : t.kind = 5
  · obtain ⟨x, y, e, hx, hy⟩ := row_form hw h5
    by_cases hn : t.name = label
    · exact ⟨x, y, hx, hy, by rw [← hn]; exact congrArg normP e⟩
    · obtain ⟨u, r, hu, hr, he⟩ := ih y (by rw [e]; simp [extT, Ty.args]) hy (by
        rw [e, cnt_ext, if_neg hn] at hc; exact hc)
      refine ⟨u, extT t.name x r, hu, extT_wf hx hr, ?_⟩
      rw [norm_swap hu hx hr (fun h => hn h.symm)]
      exact (congrArg normP e).trans (norm_extT hx hx hy (extT_wf hu hr) rfl he)
  · exact absurd (cnt_not h5) hc
theorem norm_ext_inj {l : ByteArray} {x x' y y' : Ty} (hx : x.Wf) (hx' : x'.Wf) (hy : y.Wf) (hy' : y'.Wf) (h : normP (extT l x y) = normP (extT l x' y')) : normP x = normP x' ∧ normP y = normP y' := by
  obtain ⟨h1, h2⟩ := (eqv_iff (extT_wf hx hy).nok (extT_wf hx' hy').nok).1 h
  rw [rowP_extT, rowP_extT] at h1 h2
  dsimp only at h1 h2
  have e := h1 l
  rw [fl_cons, fl_cons, if_pos rfl, if_pos rfl] at e
  simp only [List.cons.injEq, Prod.mk.injEq, true_and] at e
  refine ⟨e.1, (eqv_iff hy.nok hy'.nok).2 ⟨fun n => ?_, h2⟩⟩
  by_cases hn : l = n
  · rw [← hn]; exact e.2
  · have := h1 n
    rw [fl_cons, fl_cons, if_neg hn, if_neg hn] at this
    exact this
theorem norm_kind {t : Ty} (h : t.Wf) : (normP t).kind = t.kind := by
  by_cases h5 : t.kind = 5
  · obtain ⟨x, y, e, hx, hy⟩ := row_form h h5
    have hn : normP t = foldX (isort ltL ((t.name, normP x) :: (rowP y).1)) (rowP y).2 := by
      have h1 : rowP t = ((t.name, normP x) :: (rowP y).1, (rowP y).2) := (congrArg rowP e).trans (rowP_extT _ _ _)
      unfold normP fin
      rw [h1]; rfl
    rw [hn, h5]
    have hl : (isort ltL ((t.name, normP x) :: (rowP y).1)).length = (rowP y).1.length + 1 := by rw [(nisort_perm _).length_eq, List.length_cons]
    cases hi : isort ltL ((t.name, normP x) :: (rowP y).1) with
    | nil => rw [hi] at hl; simp at hl
    | cons p L => rfl
  · rw [normP_not h5]; rfl
end
end Go.Proofs.YthchnabhbpdfgaaDoor
end

section
namespace Go.Proofs.YthchnabhbpdfgaaDoor
open Go.RowKit Go.Shelf Go.Sort Stab

section
variable {σ τ υ : List Ty} {X X' X'' : Int → Ty}
/-- Equal at the variables of a substitution. -/
def Agree (σ : List Ty) (X X' : Int → Ty) : Prop := ∀ v : Int, v < (σ.length : Int) → X' v = X v
theorem Agree.refl (σ : List Ty) (X : Int → Ty) : Agree σ X X := fun _ _ => rfl
theorem Agree.trans (h : Agree σ X X') (k : Agree τ X' X'') (hl : σ.length ≤ τ.length) : Agree σ X X'' := fun v hv => (k v (by omega)).trans (h v hv)
theorem Agree.sub (h : Agree σ X X') {t : Ty} (hv : VIn σ t) : subT X' t = subT X t := subT_same t fun v hv' => h v (hv v hv').2
theorem rowEnd_pos (n : Int) (t : Ty) : t.Wf → rowEnd t = varT n → 0 ≤ n := by
  refine ty_ind (P := fun t => t.Wf → rowEnd t = varT n → 0 ≤ n) (fun t ih hw he => ?_) t
  by_cases h5 : t.kind = 5
  · obtain ⟨x, y, e, hx, hy⟩ := row_form hw h5
    refine ih y (by rw [e]; simp [extT, Ty.args]) hy ?_
    rw [← he]
    have : rowEnd t = rowEnd (extT t.name x y) := congrArg _ e
    rw [this, rowEnd_ext]
  · unfold rowEnd at he
    rw [rowP_not h5] at he
    unfold varT at he
    simp only [Ty.mk.injEq] at he
    have := hw.varOk he.1
    omega
/-- The variable at the end of a row. -/
theorem tailL_end (hg : Gd σ) {k : Nat} {n : Int} (hn : 0 ≤ n) : ∀ (q : Nat) (t : Ty), t.Wf → VIn σ t → (t.kind = 0 → Open σ t.var) → tailL σ k q t = some n → rowEnd (ap σ t) = varT n
  | 0, _, _, _, _, h => by cases h
  | q + 1, t, hw, hv, ho, h => by
    rw [tailL] at h
    split at h
    · rename_i h5
      obtain ⟨x, y, et, hxw, hyw⟩ := row_form hw h5
      have hargs : t.args = [x, y] := by rw [et]; rfl
      have hvy : VIn σ y := hv.arg (by rw [h5]; decide) (by rw [hargs]; simp)
      rw [hargs] at h
      dsimp only at h
      cases hwk : walkP σ k y with
      | none => rw [hwk] at h; cases h
      | some c =>
        rw [hwk] at h
        obtain ⟨c1, c2, c3⟩ := walk_ap hg k y c hvy hwk
        have := tailL_end hg hn q c (walk_wf hg.wf k y c hyw hwk) c2 c3 h
        rw [ap_row et, rowEnd_ext, ← c1]
        exact this
    · rename_i h5
      split at h
      · rename_i h0
        have e := hg.appV_self (ho h0).2.2
        have h1 := (ho h0).1
        rw [show ((t.var.toNat : Nat) : Int) = t.var by omega] at e
        rw [ap_var h0, e, rowEnd_var (varT_wf h1) rfl]
        rw [Option.some.inj h]
      · have := Option.some.inj h
        omega
theorem tailP_end (hg : Gd σ) {k : Nat} {n : Int} (hn : 0 ≤ n) {t : Ty} (hw : t.Wf) (hv : VIn σ t) (h : tailP σ k t = some n) : rowEnd (ap σ t) = varT n := by
  rw [tailP] at h
  cases hwk : walkP σ k t with
  | none => rw [hwk] at h; cases h
  | some c =>
    rw [hwk] at h
    obtain ⟨c1, c2, c3⟩ := walk_ap hg k t c hv hwk
    rw [← c1]
    exact tailL_end hg hn k c (walk_wf hg.wf k t c hw hwk) c2 c3 h
/-- A property of types that goes down to the label and the rest of a row. -/
def Down (P : Ty → Prop) : Prop := ∀ (t u r : Ty) (l : ByteArray), t.Wf → u.Wf → r.Wf → normP t = normP (extT l u r) → P t → P u ∧ P r
theorem down_true : Down (fun _ => True) := fun _ _ _ _ _ _ _ _ _ => ⟨trivial, trivial⟩
variable {P : Ty → Prop}
theorem extract_cmp (hP : Down P) (k : Nat) (label : ByteArray) (not : Int) : ∀ (q : Nat) (σ : List Ty) (X : Int → Ty) (row t rest : Ty) (e : Int) (τ : List Ty), Gd σ → Sol X σ → row.Wf → VIn σ row → cnt label (subT X row) ≠ 0 → (rowEnd (ap σ row) = varT not → cnt label (ap σ row) ≠ 0) → extractP k label not q σ row = some (t, rest, e, τ) →
    (e = 0 ∨ e = 2) ∧ (e = 0 → ∃ X', Agree σ X X' ∧ Sol X' τ ∧ ((∀ v, P (X v)) → ∀ v, P (X' v)))
  | 0, _, _, _, _, _, _, _, _, _, _, _, _, _, h => by cases h
  | q + 1, σ, X, row, t, rest, e, τ, hg, hs, hw, hv, hc, hn, h => by
    rw [extractP] at h
    cases hwk : walkP σ k row with
    | none => rw [hwk] at h; cases h
    | some c =>
      rw [hwk] at h
      dsimp only at h
      obtain ⟨c1, c2, c3⟩ := walk_ap hg k row c hv hwk
      have hcw := walk_wf hg.wf k row c hw hwk
      have hcc : cnt label (subT X c) ≠ 0 := by rw [cnt_norm (subT_wf hs.wf _ hcw) (subT_wf hs.wf _ hw) (hs.walk hg hw hv hwk)]; exact hc
      rw [← c1] at hn
      split at h
      · rename_i h0
        have ho := c3 h0
        have eap := hg.appV_self ho.2.2
        rw [show ((c.var.toNat : Nat) : Int) = c.var by have := ho.1; omega] at eap
        split at h
        · rename_i h1
          exfalso
          rw [ap_var h0, eap, h1] at hn
          refine hn (rowEnd_var (varT_wf (by rw [← h1]; exact ho.1)) rfl) (cnt_not (by show (0 : Int) ≠ 5; decide))
        · split at h
          · simp only [Option.some.injEq, Prod.mk.injEq] at h
            obtain ⟨_, _, rfl, _⟩ := h
            exact ⟨.inr rfl, fun h => absurd h (by decide)⟩
          · rename_i hl
            split at h
            · cases h
            · rename_i r hz
              simp only [Option.some.injEq, Prod.mk.injEq] at h
              obtain ⟨_, _, rfl, h4⟩ := h
              refine ⟨sized_two hz, fun _ => ?_⟩
              rw [subT_var h0] at hcc
              obtain ⟨u, r, hu, hr, hp⟩ := pick label (X c.var) (hs.wf _) hcc
              obtain ⟨X1, xa, xb, xc⟩ : ∃ X1 : Int → Ty, X1 (σ.length : Int) = u ∧ X1 ((σ.length : Int) + 1) = r ∧ ∀ v, v ≠ (σ.length : Int) → v ≠ (σ.length : Int) + 1 → X1 v = X v :=
                ⟨fun w => if w = (σ.length : Int) then u else if w = (σ.length : Int) + 1 then r else X w, if_pos rfl, (if_neg (by omega)).trans (if_pos rfl), fun v h1 h2 => (if_neg h1).trans (if_neg h2)⟩
              have hag : Agree σ X X1 := fun v hv => xc v (by omega) (by omega)
              have hS : Sol X1 (σ ++ [varT (σ.length : Int), varT ((σ.length : Int) + 1)]) := by
                refine ⟨fun v => ?_, fun v x hx => ?_⟩
                · by_cases e1 : v = (σ.length : Int)
                  · rw [e1, xa]; exact hu
                  · by_cases e2 : v = (σ.length : Int) + 1
                    · rw [e2, xb]; exact hr
                    · rw [xc v e1 e2]; exact hs.wf v
                · by_cases hlt : v < σ.length
                  · rw [get_two hlt] at hx
                    rw [hag (v : Int) (by omega), hag.sub (fun w hw => hg.inn x (List.mem_of_getElem? hx) w hw)]
                    exact hs.eq v x hx
                  · have hvl : v < (σ ++ [varT (σ.length : Int), varT ((σ.length : Int) + 1)]).length := by
                      rcases Nat.lt_or_ge v (σ ++ [varT (σ.length : Int), varT ((σ.length : Int) + 1)]).length with h | h
                      · exact h
                      · rw [List.getElem?_eq_none h] at hx; cases hx
                    simp only [List.length_append, List.length_cons, List.length_nil] at hvl
                    obtain ⟨y, hy, h1, h2⟩ := selfB_iff.1 (self_new (σ := σ) v (by omega))
                    rw [hx] at hy
                    cases hy
                    rw [subT_var h1, h2]
              have hvc : ((c.var.toNat : Nat) : Int) = c.var := by have := ho.1; omega
              refine ⟨X1, hag, ?_, fun hPX v => ?_⟩
              rotate_left
              · obtain ⟨p1, p2⟩ := hP (X c.var) u r label (hs.wf _) hu hr hp (hPX _)
                by_cases e1 : v = (σ.length : Int)
                · rw [e1, xa]; exact p1
                · by_cases e2 : v = (σ.length : Int) + 1
                  · rw [e2, xb]; exact p2
                  · rw [xc v e1 e2]; exact hPX v
              rw [← h4]
              refine hS.set ?_
              rw [hvc, subT_ext, subT_var rfl, subT_var rfl, hag c.var ho.2.1]
              show normP (X c.var) = normP (extT label (X1 (σ.length : Int)) (X1 ((σ.length : Int) + 1)))
              rw [xa, xb]
              exact hp
      · rename_i h0
        split at h
        · rename_i h5
          exact absurd (cnt_not (by rw [subT_not h0]; exact h5)) hcc
        · rename_i h5
          have h5' : c.kind = 5 := Classical.not_not.1 h5
          obtain ⟨x, y, ec, hxw, hyw⟩ := row_form hcw h5'
          have hargs : c.args = [x, y] := by rw [ec]; rfl
          have hvy : VIn σ y := c2.arg h0 (by rw [hargs]; simp)
          rw [hargs] at h
          dsimp only at h
          split at h
          · simp only [Option.some.injEq, Prod.mk.injEq] at h
            obtain ⟨_, _, rfl, rfl⟩ := h
            exact ⟨.inl rfl, fun _ => ⟨X, .refl _ _, hs, fun h => h⟩⟩
          · rename_i hnm
            split at h
            · cases h
            · rename_i t1 rest1 e1 σ1 hx
              simp only [Option.some.injEq, Prod.mk.injEq] at h
              obtain ⟨_, _, rfl, rfl⟩ := h
              have hsub : subT X c = extT c.name (subT X x) (subT X y) := (congrArg (subT X) ec).trans (subT_ext _ _ _ _)
              refine extract_cmp hP k label not q σ X y _ _ _ _ hg hs hyw hvy ?_ ?_ hx
              · rw [hsub, cnt_ext, if_neg hnm] at hcc; exact hcc
              · intro he
                have := hn (by rw [ap_row ec, rowEnd_ext]; exact he)
                rw [ap_row ec, cnt_ext, if_neg hnm] at this; exact this
/-! ### The unifier -/
def Cmpl (P : Ty → Prop) (f : List Ty → Ty → Ty → Option (Int × List Ty)) : Prop := ∀ (σ : List Ty) (X : Int → Ty) (a b : Ty) (e : Int) (τ : List Ty), Gd σ → Sol X σ → a.Wf → b.Wf → VIn σ a → VIn σ b → normP (subT X a) = normP (subT X b) → f σ a b = some (e, τ) →
  (e = 0 ∨ e = 2) ∧ (e = 0 → ∃ X', Agree σ X X' ∧ Sol X' τ ∧ ((∀ v, P (X v)) → ∀ v, P (X' v)))
theorem unifyL_cmp {f : List Ty → Ty → Ty → Option (Int × List Ty)} (hf : Cmpl P f) (hs : Sound f) : ∀ (l m σ : List Ty) (X : Int → Ty) (e : Int) (τ : List Ty), Gd σ → Sol X σ → (∀ a ∈ l, a.Wf ∧ VIn σ a) → (∀ b ∈ m, b.Wf ∧ VIn σ b) → l.map (fun a => normP (subT X a)) = m.map (fun a => normP (subT X a)) → unifyL f l m σ = some (e, τ) →
    (e = 0 ∨ e = 2) ∧ (e = 0 → ∃ X', Agree σ X X' ∧ Sol X' τ ∧ ((∀ v, P (X v)) → ∀ v, P (X' v)))
  | [], m, σ, X, e, τ, _, hS, _, _, _, h => by
    have : unifyL f [] m σ = some (0, σ) := by cases m <;> rfl
    rw [this] at h
    simp only [Option.some.injEq, Prod.mk.injEq] at h
    obtain ⟨rfl, rfl⟩ := h
    exact ⟨.inl rfl, fun _ => ⟨X, .refl _ _, hS, fun h => h⟩⟩
  | _ :: _, [], _, _, _, _, _, _, _, _, hl, _ => by simp at hl
  | a :: l, b :: m, σ, X, e, τ, hg, hS, ha, hb, hl, h => by
    simp only [List.map_cons, List.cons.injEq] at hl
    obtain ⟨wa, va⟩ := ha a List.mem_cons_self
    obtain ⟨wb, vb⟩ := hb b List.mem_cons_self
    rw [unifyL] at h
    cases h1 : f σ a b with
    | none => rw [h1] at h; cases h
    | some p =>
      obtain ⟨e1, σ1⟩ := p
      rw [h1] at h
      dsimp only at h
      obtain ⟨k1, k2⟩ := hf σ X a b e1 σ1 hg hS wa wb va vb hl.1 h1
      split at h
      · rename_i h2
        simp only [Option.some.injEq, Prod.mk.injEq] at h
        rw [← h.1]
        exact ⟨k1, fun h => absurd h h2⟩
      · rename_i h2
        obtain rfl : e1 = 0 := Classical.not_not.1 h2
        obtain ⟨s1, _⟩ := hs _ _ _ _ hg wa wb va vb h1
        obtain ⟨X1, g1, S1, P1⟩ := k2 rfl
        obtain ⟨m1, m2⟩ := unifyL_cmp hf hs l m σ1 X1 e τ s1.gd S1 (fun x hx => ⟨(ha x (List.mem_cons_of_mem _ hx)).1, s1.vin (ha x (List.mem_cons_of_mem _ hx)).2⟩) (fun x hx => ⟨(hb x (List.mem_cons_of_mem _ hx)).1, s1.vin (hb x (List.mem_cons_of_mem _ hx)).2⟩) (by
          rw [List.map_congr_left (fun x hx => by rw [g1.sub (ha x (List.mem_cons_of_mem _ hx)).2] : ∀ x ∈ l, normP (subT X1 x) = normP (subT X x)), List.map_congr_left (fun x hx => by rw [g1.sub (hb x (List.mem_cons_of_mem _ hx)).2] : ∀ x ∈ m, normP (subT X1 x) = normP (subT X x))]
          exact hl.2) h
        refine ⟨m1, fun he => ?_⟩
        obtain ⟨X2, g2, S2, P2⟩ := m2 he
        exact ⟨X2, g1.trans g2 s1.keep.len, S2, fun h => P2 (P1 h)⟩
theorem rows_cmp (hP : Down P) {k : Nat} {f : List Ty → Ty → Ty → Option (Int × List Ty)} (hf : Cmpl P f) (hs : Sound f) (hg : Gd σ) (hS : Sol X σ) {a b : Ty} (wa : a.Wf) (wb : b.Wf) (va : VIn σ a) (vb : VIn σ b) (h5 : a.kind = 5) (hab : normP (subT X a) = normP (subT X b)) {e : Int} (h : rowsP k f σ a b = some (e, τ)) :
    (e = 0 ∨ e = 2) ∧ (e = 0 → ∃ X', Agree σ X X' ∧ Sol X' τ ∧ ((∀ v, P (X v)) → ∀ v, P (X' v))) := by
  rw [rowsP] at h
  split at h
  · cases h
  · rename_i n h1
    split at h
    · cases h
    · rename_i t rest e1 σ1 h2
      obtain ⟨x, y, ea, hxw, hyw⟩ := row_form wa h5
      have hargs : a.args = [x, y] := by rw [ea]; rfl
      have h0 : a.kind ≠ 0 := by rw [h5]; decide
      have hvx : VIn σ x := va.arg h0 (by rw [hargs]; simp)
      have hvy : VIn σ y := va.arg h0 (by rw [hargs]; simp)
      have hsa : subT X a = extT a.name (subT X x) (subT X y) := (congrArg (subT X) ea).trans (subT_ext _ _ _ _)
      have wsa := subT_wf hS.wf a wa
      have wsb := subT_wf hS.wf b wb
      have hcb : cnt a.name (subT X b) ≠ 0 := by
        rw [← cnt_norm wsa wsb hab, hsa, cnt_ext, if_pos rfl]; omega
      have hnot : rowEnd (ap σ b) = varT n → cnt a.name (ap σ b) ≠ 0 := fun he => by
        have hn0 := rowEnd_pos n _ (hg.apwf wb) he
        have hea := tailP_end hg hn0 wa va h1
        have c1 := cnt_sub (X := X) a.name (ap σ a) (hg.apwf wa)
        have c2 := cnt_sub (X := X) a.name (ap σ b) (hg.apwf wb)
        rw [hea, cnt_norm (subT_wf hS.wf _ (hg.apwf wa)) wsa (hS.ap hg wa va)] at c1
        rw [he, cnt_norm (subT_wf hS.wf _ (hg.apwf wb)) wsb (hS.ap hg wb vb)] at c2
        rw [cnt_norm wsa wsb hab] at c1
        rw [ap_row ea, cnt_ext, if_pos rfl] at c1
        omega
      obtain ⟨k1, k2⟩ := extract_cmp hP k a.name n k σ X b t rest e1 σ1 hg hS wb vb hcb hnot h2
      split at h
      · rename_i h3
        simp only [Option.some.injEq, Prod.mk.injEq] at h
        rw [← h.1]
        exact ⟨k1, fun h => absurd h h3⟩
      · rename_i h3
        obtain rfl : e1 = 0 := Classical.not_not.1 h3
        obtain ⟨s1, w1, w2, i1, _⟩ := extract_ok _ _ _ _ _ _ _ _ _ hg wb vb h2
        obtain ⟨v1, v2⟩ := extractP_in _ _ _ _ _ _ _ _ _ _ hg.inn vb h2 rfl
        obtain ⟨X1, g1, S1, P1⟩ := k2 rfl
        -- what is solved behind the label taken off
        have hrow : normP (subT X1 b) = normP (extT a.name (subT X1 t) (subT X1 rest)) := by
          have hi := norm_sub (X := X1) (s1.gd.apwf wb) (extT_wf (s1.gd.apwf w1) (s1.gd.apwf w2)) i1
          rw [S1.ap s1.gd wb (s1.vin vb), ← ap_extT, S1.ap s1.gd (extT_wf w1 w2) (fun v hv => by
            obtain ⟨c, hc, hvc⟩ := (freeP_args (t := extT a.name t rest) (show (5 : Int) ≠ 0 by decide)).1 hv
            have hc' : c = t ∨ c = rest := by simpa [extT, Ty.args] using hc
            rcases hc' with rfl | rfl
            · exact v1 v hvc
            · exact v2 v hvc), subT_ext] at hi
          exact hi
        have hab1 : normP (extT a.name (subT X1 x) (subT X1 y)) = normP (extT a.name (subT X1 t) (subT X1 rest)) := by
          rw [← hrow, g1.sub vb, ← hab, hsa, g1.sub hvx, g1.sub hvy]
        obtain ⟨e1', e2'⟩ := norm_ext_inj (subT_wf S1.wf x hxw) (subT_wf S1.wf t w1) (subT_wf S1.wf y hyw) (subT_wf S1.wf rest w2) hab1
        rw [hargs] at h
        dsimp only at h
        split at h
        · cases h
        · rename_i e2 σ2 h4
          obtain ⟨m1, m2⟩ := hf σ1 X1 x t e2 σ2 s1.gd S1 hxw w1 (s1.vin hvx) v1 e1' h4
          split at h
          · rename_i h6
            simp only [Option.some.injEq, Prod.mk.injEq] at h
            rw [← h.1]
            exact ⟨m1, fun h => absurd h h6⟩
          · rename_i h6
            obtain rfl : e2 = 0 := Classical.not_not.1 h6
            obtain ⟨s2, _⟩ := hs _ _ _ _ s1.gd hxw w1 (s1.vin hvx) v1 h4
            obtain ⟨X2, g2, S2, P2⟩ := m2 rfl
            obtain ⟨n1, n2⟩ := hf σ2 X2 y rest e τ s2.gd S2 hyw w2 ((s1.trans s2).vin hvy) (s2.vin v2) (by rw [g2.sub (s1.vin hvy), g2.sub v2]; exact e2') h
            refine ⟨n1, fun he => ?_⟩
            obtain ⟨X3, g3, S3, P3⟩ := n2 he
            exact ⟨X3, (g1.trans g2 s1.keep.len).trans g3 (s1.trans s2).keep.len, S3, fun h => P3 (P2 (P1 h))⟩
theorem unify_cmp (hP : Down P) (k : Nat) : ∀ q : Nat, Cmpl P (unifyP k q)
  | 0 => fun _ _ _ _ _ _ _ _ _ _ _ _ _ h => by cases h
  | q + 1 => fun σ X a b e τ hg hS wa wb va vb hab h => by
    have ih := unify_cmp hP k q
    have hs := unify_ok k q
    rw [unifyP] at h
    cases h1 : walkP σ k a with
    | none => rw [h1] at h; cases h
    | some a' =>
      rw [h1] at h
      dsimp only at h
      cases h2 : walkP σ k b with
      | none => rw [h2] at h; cases h
      | some b' =>
        rw [h2] at h
        dsimp only at h
        obtain ⟨_, va', oa⟩ := walk_ap hg k a a' va h1
        obtain ⟨_, vb', ob⟩ := walk_ap hg k b b' vb h2
        have wa' := walk_wf hg.wf k a a' wa h1
        have wb' := walk_wf hg.wf k b b' wb h2
        rw [← hS.walk hg wa va h1, ← hS.walk hg wb vb h2] at hab
        split at h
        · rename_i c1
          rw [subT_var c1] at hab
          obtain ⟨m1, m2⟩ := bind_cmp hg hS (oa c1) wb' vb' ob hab h
          exact ⟨m1, fun he => ⟨X, .refl _ _, m2 he, fun h => h⟩⟩
        · rename_i c1
          split at h
          · rename_i c2
            rw [subT_var c2] at hab
            obtain ⟨m1, m2⟩ := bind_cmp hg hS (ob c2) wa' va' oa hab.symm h
            exact ⟨m1, fun he => ⟨X, .refl _ _, m2 he, fun h => h⟩⟩
          · rename_i c2
            have hk : a'.kind = b'.kind := by
              have e1 := norm_kind (subT_wf hS.wf a' wa')
              have e2 := norm_kind (subT_wf hS.wf b' wb')
              rw [hab, e2, subT_not c1, subT_not c2] at e1
              exact e1.symm
            split at h
            · rename_i c3
              exact rows_cmp hP ih hs hg hS wa' wb' va' vb' c3.1 hab h
            · rename_i c3
              have k5 : a'.kind ≠ 5 := fun e => c3 ⟨e, by rw [← hk, e]; decide⟩
              have k5' : b'.kind ≠ 5 := by rw [← hk]; exact k5
              have hab2 := hab
              rw [subT_not c1, subT_not c2, normP_not (t := .mk a'.kind a'.name a'.var (a'.args.map (subT X))) k5, normP_not (t := .mk b'.kind b'.name b'.var (b'.args.map (subT X))) k5'] at hab2
              have hab3 : Ty.mk a'.kind a'.name a'.var ((a'.args.map (subT X)).map normP) = Ty.mk b'.kind b'.name b'.var ((b'.args.map (subT X)).map normP) := hab2
              simp only [Ty.mk.injEq, List.map_map] at hab3
              obtain ⟨_, n2, _, n4⟩ := hab3
              split at h
              · rename_i c4
                have hl := congrArg List.length n4
                rw [List.length_map, List.length_map] at hl
                rcases c4 with c4 | c4 | c4
                · exact absurd hk c4
                · exact absurd n2 c4
                · exact absurd hl c4
              · exact unifyL_cmp ih hs _ _ _ _ _ _ hg hS (fun x hx => ⟨wa'.arg hx, va'.arg c1 hx⟩) (fun x hx => ⟨wb'.arg hx, vb'.arg c2 hx⟩) n4 h
end
end Go.Proofs.YthchnabhbpdfgaaDoor
end
