/- Sizes; what Unify answers; as many free variables whichever type comes first. No program in sight. -/
import Derived.Test.YthchnabhbpdfgaaDoorMCmp
import Derived.Test.YthchnabhbpdfgaaDoorMRowL
namespace Go.Proofs.YthchnabhbpdfgaaDoor
open Go.RowKit Go.Shelf Go.Sort Stab

theorem chk_type {t : Ty} {left depth : Int} (h : (chk t left false depth).1 = 0) : decide (4 ≤ t.kind) = false := by
  cases t with
  | mk k n v l =>
    rw [chk] at h
    split at h
    · exact absurd (show (2 : Int) = 0 from h) (by decide)
    split at h
    · exact absurd (show (9 : Int) = 0 from h) (by decide)
    split at h
    · exact absurd (show (3 : Int) = 0 from h) (by decide)
    split at h
    · exact absurd (show (9 : Int) = 0 from h) (by decide)
    · rename_i h1 h2 h3 h4
      by_cases hk : k = 0
      · show decide (4 ≤ k) = false
        rw [hk]; rfl
      · cases hd : decide (4 ≤ k) with
        | false => exact hd
        | true => exact absurd ⟨hk, by rw [hd]; simp⟩ h4
theorem tyErr_type {n : Nat} {t : Ty} (h : (chk t 4096 false 1).1 = 0) (hv : ∀ v ∈ freeP t, v < (n : Int)) : tyErr n t = 0 := by
  unfold tyErr
  rw [chk_type h, h, if_neg (by simp), if_neg]
  intro ha
  obtain ⟨v, hv1, hv2⟩ := List.any_eq_true.1 ha
  have := of_decide_eq_true hv2
  have := hv v hv1
  omega
theorem tyErr_num : tyErr 12 numT = 0 := tyErr_type (by rw [chk_num 4096 1 (by decide) (by decide)]) fun v hv => by
  rw [numT, freeP, if_neg (by decide), frees] at hv; cases hv
section
variable {σ τ υ : List Ty}
/-! ### Sizes -/
/-- The numbers that the meter keeps. -/
def OfOk (σ : List Ty) (of : List Int) : Prop := ∀ u, u < σ.length → of.getD u 0 = 0 ∨ of.getD u 0 = ((min (nodes (appV σ (u : Int))) 4097 : Nat) : Int)
theorem sizeL_val {f : List Int → Ty → Option (Int × List Int)} : ∀ (l : List Ty) (N : Nat) (of : List Int) (r : Int) (of' : List Int), (∀ a ∈ l, ∀ of r of', OfOk σ of → f of a = some (r, of') → r = ((min (nodes (ap σ a)) 4097 : Nat) : Int) ∧ OfOk σ of') → OfOk σ of →
    sizeL f l ((min N 4097 : Nat) : Int) of = some (r, of') → r = ((min (N + nodess (l.map (ap σ))) 4097 : Nat) : Int) ∧ OfOk σ of'
  | [], N, of, r, of', _, ho, h => by
    simp only [sizeL, Option.some.injEq, Prod.mk.injEq] at h
    rw [← h.1, ← h.2]
    exact ⟨rfl, ho⟩
  | a :: l, N, of, r, of', hf, ho, h => by
    rw [sizeL] at h
    cases h1 : f of a with
    | none => rw [h1] at h; cases h
    | some p =>
      obtain ⟨m, o1⟩ := p
      rw [h1] at h
      dsimp only at h
      obtain ⟨e1, e2⟩ := hf a List.mem_cons_self of m o1 ho h1
      rw [e1, show min (((min N 4097 : Nat) : Int) + ((min (nodes (ap σ a)) 4097 : Nat) : Int)) 4097 = ((min (N + nodes (ap σ a)) 4097 : Nat) : Int) by omega] at h
      obtain ⟨e3, e4⟩ := sizeL_val l (N + nodes (ap σ a)) o1 r of' (fun b hb => hf b (List.mem_cons_of_mem _ hb)) e2 h
      refine ⟨?_, e4⟩
      rw [e3, List.map_cons, nodess, Nat.add_assoc]
theorem size_val (hg : Gd σ) : ∀ (k : Nat) (of : List Int) (t : Ty) (r : Int) (of' : List Int), OfOk σ of → VIn σ t → sizeP σ k of t = some (r, of') → r = ((min (nodes (ap σ t)) 4097 : Nat) : Int) ∧ OfOk σ of'
  | 0, _, _, _, _, _, _, h => by cases h
  | k + 1, of, t, r, of', ho, hv, h => by
    rw [sizeP] at h
    split at h
    · rename_i h0
      have hvt := hv t.var (by rw [freeP_var h0]; exact List.mem_singleton.2 rfl)
      have hvc : ((t.var.toNat : Nat) : Int) = t.var := by omega
      split at h
      · cases h
      · rename_i x hx
        split at h
        · rename_i h1
          simp only [Option.some.injEq, Prod.mk.injEq] at h
          have e := hg.appV_self (v := t.var.toNat) (selfB_iff.2 ⟨x, hx, h1.1, by rw [h1.2]; omega⟩)
          rw [hvc] at e
          rw [ap_var h0, e, ← h.1, ← h.2]
          exact ⟨rfl, ho⟩
        · rename_i h1
          have hsb : selfB σ t.var.toNat = false := by
            cases hb : selfB σ t.var.toNat with
            | false => rfl
            | true =>
              obtain ⟨y, hy, k1, k2⟩ := selfB_iff.1 hb
              rw [hx] at hy; cases hy
              exact absurd ⟨k1, by rw [k2]; omega⟩ h1
          have e := hg.appV_to hx hsb
          split at h
          · split at h
            · cases h
            · rename_i r1 o1 h2
              simp only [Option.some.injEq, Prod.mk.injEq] at h
              obtain ⟨e1, e2⟩ := size_val hg k of x r1 o1 ho (fun w hw => hg.inn x (List.mem_of_getElem? hx) w hw) h2
              rw [← e] at e1
              rw [ap_var h0, ← hvc, ← h.1, ← h.2]
              refine ⟨e1, fun u hu => ?_⟩
              rw [getD_set]
              split
              · rename_i h3
                right
                rw [e1, ← h3.1]
              · exact e2 u hu
          · rename_i h2
            simp only [Option.some.injEq, Prod.mk.injEq] at h
            have := (ho t.var.toNat (by omega)).resolve_left h2
            rw [ap_var h0, ← h.1, ← h.2, this, hvc]
            exact ⟨rfl, ho⟩
    · rename_i h0
      have h2 := sizeL_val (σ := σ) t.args 1 of r of' (fun a ha of r of' ho h => size_val hg k of a r of' ho (hv.arg h0 ha) h) ho h
      refine ⟨?_, h2.2⟩
      rw [h2.1, ap_not h0, nodes, Nat.add_comm]
theorem sizedL_val (hg : Gd σ) {k : Nat} : ∀ (l : List Nat) (of : List Int), OfOk σ of → (∀ v ∈ l, v < σ.length) → sizedL σ k l of = some 0 → ∀ v ∈ l, nodes (appV σ (v : Int)) ≤ 4096
  | [], _, _, _, _ => fun v hv => by cases hv
  | u :: l, of, ho, hl, h => by
    rw [sizedL] at h
    split at h
    · cases h
    · rename_i m of' h1
      obtain ⟨e1, e2⟩ := size_val hg k of (varT (u : Int)) m of' ho (varT_in ⟨by omega, by have := hl u List.mem_cons_self; omega⟩) h1
      split at h
      · exact absurd (Option.some.inj h) (by decide)
      · rename_i h2
        intro v hv
        rcases List.mem_cons.1 hv with rfl | hv
        · have e3 : ap σ (varT (v : Int)) = appV σ (v : Int) := ap_var rfl
          rw [e3] at e1; omega
        · exact sizedL_val hg l of' e2 (fun w hw => hl w (List.mem_cons_of_mem _ hw)) h v hv
/-- Its types are within the limit. -/
def Szd (σ : List Ty) : Prop := ∃ k, sizedP σ k = some 0
theorem Szd.small (h : Szd σ) (hg : Gd σ) {v : Nat} (hv : v < σ.length) : nodes (appV σ (v : Int)) ≤ 4096 := by
  obtain ⟨k, hk⟩ := h
  refine sizedL_val hg _ _ (fun u hu => .inl ?_) (fun w hw => List.mem_range.1 hw) hk v (List.mem_range.2 hv)
  rw [List.getD_eq_getElem?_getD, List.getElem?_replicate]
  split <;> rfl
theorem nodess_le {f : Ty → Ty} {c : Nat} : ∀ l : List Ty, (∀ a ∈ l, nodes (f a) ≤ nodes a * c) → nodess (l.map f) ≤ nodess l * c
  | [], _ => by simp [nodess]
  | a :: l, h => by
    have h1 := h a List.mem_cons_self
    have h2 := nodess_le l (fun b hb => h b (List.mem_cons_of_mem _ hb))
    rw [List.map_cons, nodess, nodess, Nat.add_mul]
    omega
theorem Szd.nodes (h : Szd σ) (hg : Gd σ) (t : Ty) : VIn σ t → Go.Proofs.YthchnabhbpdfgaaDoor.nodes (ap σ t) ≤ Go.Proofs.YthchnabhbpdfgaaDoor.nodes t * 4096 := by
  refine ty_ind (P := fun t => VIn σ t → Go.Proofs.YthchnabhbpdfgaaDoor.nodes (ap σ t) ≤ Go.Proofs.YthchnabhbpdfgaaDoor.nodes t * 4096) (fun t ih hv => ?_) t
  by_cases h0 : t.kind = 0
  · have hvt := hv t.var (by rw [freeP_var h0]; exact List.mem_singleton.2 rfl)
    have h1 := h.small hg (v := t.var.toNat) (by omega)
    rw [show ((t.var.toNat : Nat) : Int) = t.var by omega] at h1
    have h2 := nodes_eq t
    rw [ap_var h0]
    have h3 : 1 * 4096 ≤ Go.Proofs.YthchnabhbpdfgaaDoor.nodes t * 4096 := Nat.mul_le_mul_right _ (by omega)
    omega
  · have h1 := nodess_le (f := ap σ) (c := 4096) t.args (fun a ha => ih a ha (hv.arg h0 ha))
    have h2 := nodes_eq t
    rw [ap_not h0, Go.Proofs.YthchnabhbpdfgaaDoor.nodes, h2, Nat.add_mul]
    omega
theorem nodess_ge {f : Ty → Ty} : ∀ l : List Ty, (∀ a ∈ l, nodes a ≤ nodes (f a)) → nodess l ≤ nodess (l.map f)
  | [], _ => Nat.le_refl _
  | a :: l, h => by
    have h1 := h a List.mem_cons_self
    have h2 := nodess_ge l (fun b hb => h b (List.mem_cons_of_mem _ hb))
    rw [List.map_cons, nodess, nodess]
    omega
theorem nodes_sub_ge (X : Int → Ty) (t : Ty) : t.Wf → nodes t ≤ nodes (subT X t) := by
  refine ty_ind (P := fun t => t.Wf → nodes t ≤ nodes (subT X t)) (fun t ih hw => ?_) t
  by_cases h0 : t.kind = 0
  · have h1 := nodes_eq t
    rw [hw.leaf (.inl h0)] at h1
    have h2 := nodes_eq (subT X t)
    have h3 : nodess ([] : List Ty) = 0 := rfl
    omega
  · have h1 := nodess_ge (f := subT X) t.args (fun a ha => ih a ha (hw.arg ha))
    have h2 := nodes_eq t
    rw [subT_not h0, nodes]
    omega
theorem Szd.ent (h : Szd σ) (hg : Gd σ) : ∀ x ∈ σ, Go.Proofs.YthchnabhbpdfgaaDoor.nodes x ≤ 4096 := fun x hx => by
  obtain ⟨v, hv, e⟩ := List.mem_iff_getElem.1 hx
  have hx2 : σ[v]? = some x := by rw [List.getElem?_eq_getElem hv, e]
  cases hs : selfB σ v with
  | true =>
    obtain ⟨y, hy, h1, h2⟩ := selfB_iff.1 hs
    rw [hx2] at hy; cases hy
    have h3 := nodes_eq x
    rw [(hg.wf x hx).leaf (.inl h1)] at h3
    have : nodess ([] : List Ty) = 0 := rfl
    omega
  | false =>
    have h1 := h.small hg hv
    rw [hg.appV_to hx2 hs] at h1
    have h2 := nodes_sub_ge (appV σ) x (hg.wf x hx)
    have h3 : Go.Proofs.YthchnabhbpdfgaaDoor.nodes (subT (appV σ) x) ≤ 4096 := h1
    omega
/-! The unifier leaves types within the limit. -/
theorem bind_szd {k : Nat} {v : Int} {t : Ty} (h : bindP k σ v t = some (0, τ)) (hs : Szd σ) : Szd τ := by
  rw [bindP] at h
  split at h
  · simp only [Option.some.injEq, Prod.mk.injEq, true_and] at h
    rw [← h]; exact hs
  · split at h
    · cases h
    · simp only [Option.some.injEq, Prod.mk.injEq] at h
      exact absurd h.1 (by decide)
    · split at h
      · cases h
      · rename_i r hr
        simp only [Option.some.injEq, Prod.mk.injEq] at h
        rw [h.1] at hr
        rw [← h.2]; exact ⟨k, hr⟩
theorem extract_szd (k : Nat) (label : ByteArray) (not : Int) : ∀ (q : Nat) (σ : List Ty) (row t rest : Ty) (τ : List Ty), extractP k label not q σ row = some (t, rest, 0, τ) → Szd σ → Szd τ
  | 0, _, _, _, _, _, h, _ => by cases h
  | q + 1, σ, row, t, rest, τ, h, hs => by
    rw [extractP] at h
    split at h
    · cases h
    · split at h
      · split at h
        · simp only [Option.some.injEq, Prod.mk.injEq] at h
          exact absurd h.2.2.1 (by decide)
        · split at h
          · simp only [Option.some.injEq, Prod.mk.injEq] at h
            exact absurd h.2.2.1 (by decide)
          · split at h
            · cases h
            · rename_i r hr
              simp only [Option.some.injEq, Prod.mk.injEq] at h
              obtain ⟨_, _, rfl, rfl⟩ := h
              exact ⟨k, hr⟩
      · split at h
        · simp only [Option.some.injEq, Prod.mk.injEq] at h
          exact absurd h.2.2.1 (by decide)
        · split at h
          · split at h
            · simp only [Option.some.injEq, Prod.mk.injEq] at h
              rw [← h.2.2.2]; exact hs
            · split at h
              · cases h
              · rename_i hx
                simp only [Option.some.injEq, Prod.mk.injEq] at h
                obtain ⟨_, _, rfl, rfl⟩ := h
                exact extract_szd k label not q _ _ _ _ _ hx hs
          · cases h
def KeepsSz (f : List Ty → Ty → Ty → Option (Int × List Ty)) : Prop := ∀ (σ : List Ty) (a b : Ty) (τ : List Ty), f σ a b = some (0, τ) → Szd σ → Szd τ
theorem unifyL_szd {f : List Ty → Ty → Ty → Option (Int × List Ty)} (hf : KeepsSz f) : ∀ (l m σ τ : List Ty), unifyL f l m σ = some (0, τ) → Szd σ → Szd τ
  | a :: l, b :: m, σ, τ, h, hs => by
    rw [unifyL] at h
    split at h
    · cases h
    · rename_i e σ1 h1
      split at h
      · rename_i h2
        simp only [Option.some.injEq, Prod.mk.injEq] at h
        exact absurd h.1 h2
      · rename_i h2
        obtain rfl : e = 0 := Classical.not_not.1 h2
        exact unifyL_szd hf l m σ1 τ h (hf _ _ _ _ h1 hs)
  | [], _, σ, τ, h, hs => by
    simp only [unifyL, Option.some.injEq, Prod.mk.injEq, true_and] at h
    rw [← h]; exact hs
  | _ :: _, [], σ, τ, h, hs => by
    simp only [unifyL, Option.some.injEq, Prod.mk.injEq, true_and] at h
    rw [← h]; exact hs
theorem unify_szd (k : Nat) : ∀ q : Nat, KeepsSz (unifyP k q)
  | 0 => fun _ _ _ _ h => by cases h
  | q + 1 => fun σ a b τ h hs => by
    have ih := unify_szd k q
    rw [unifyP] at h
    split at h
    · cases h
    · split at h
      · cases h
      · split at h
        · exact bind_szd h hs
        · split at h
          · exact bind_szd h hs
          · split at h
            · rw [rowsP] at h
              split at h
              · cases h
              · split at h
                · cases h
                · rename_i t rest e σ1 h2
                  split at h
                  · rename_i h3
                    simp only [Option.some.injEq, Prod.mk.injEq] at h
                    exact absurd h.1 h3
                  · rename_i h3
                    obtain rfl : e = 0 := Classical.not_not.1 h3
                    have hs1 := extract_szd _ _ _ _ _ _ _ _ _ h2 hs
                    split at h
                    · split at h
                      · cases h
                      · rename_i e2 σ2 h4
                        split at h
                        · rename_i h5
                          simp only [Option.some.injEq, Prod.mk.injEq] at h
                          exact absurd h.1 h5
                        · rename_i h5
                          obtain rfl : e2 = 0 := Classical.not_not.1 h5
                          exact ih _ _ _ _ h (ih _ _ _ _ h4 hs1)
                    · cases h
            · split at h
              · simp only [Option.some.injEq, Prod.mk.injEq] at h
                exact absurd h.1 (by decide)
              · exact unifyL_szd ih _ _ _ _ h hs
/-! ### Unify -/
theorem tyErr_wf {n : Nat} {t : Ty} (h : tyErr n t = 0) : t.Wf := by
  unfold tyErr at h
  split at h
  · rename_i h2; exact absurd h h2
  · rename_i h2
    exact chk_wf t _ _ _ (Classical.not_not.1 h2)
theorem Fine.gd (h : Fine σ) : Gd σ := ⟨h.inn, fun x hx => tyErr_wf (h.ok x hx), h.acy, h.len⟩
theorem subC_sized {k : Nat} (h : subC σ k = some 0) : Szd σ := by
  rw [subC] at h
  split at h
  · exact absurd (Option.some.inj h) (by decide)
  · split at h
    · rename_i h1
      exact absurd (Option.some.inj h) h1
    · split at h
      · cases h
      · exact absurd (Option.some.inj h) (by decide)
      · exact ⟨k, h⟩
theorem subC_fine {k : Nat} (h : subC σ k = some 0) : Fine σ := by
  rw [subC] at h
  split at h
  · exact absurd (Option.some.inj h) (by decide)
  · rename_i h1
    split at h
    · rename_i h2
      exact absurd (Option.some.inj h) h2
    · rename_i h2
      split at h
      · cases h
      · exact absurd (Option.some.inj h) (by decide)
      · rename_i h3
        exact ⟨by omega, tysErr_ok (Classical.not_not.1 h2), fun v hv => cycS_acy _ _ (stOk_zero σ _) h3 v (List.mem_range.2 hv)⟩
theorem cycL_mono {f g : List Int → Nat → Option (Bool × List Int)} (hfg : ∀ s v r, f s v = some r → g s v = some r) : ∀ (l st : List Int) (r : Bool × List Int), cycL f l st = some r → cycL g l st = some r
  | [], _, _, h => h
  | x :: l, st, r, h => by
    rw [cycL] at h ⊢
    cases h1 : f st x.toNat with
    | none => rw [h1] at h; cases h
    | some p =>
      rw [h1] at h
      rw [hfg _ _ _ h1]
      obtain ⟨b, s1⟩ := p
      cases b
      · exact cycL_mono hfg l s1 r h
      · exact h
theorem cyc_mono : ∀ (n : Nat) (st : List Int) (v : Nat) (r : Bool × List Int), cyc σ n st v = some r → cyc σ (n + 1) st v = some r
  | 0, _, _, _, h => by cases h
  | n + 1, st, v, r, h => by
    rw [cyc] at h ⊢
    split
    · rename_i h1
      rw [if_pos h1] at h; exact h
    · rename_i h1
      rw [if_neg h1] at h
      cases h2 : cycL (cyc σ n) (freeAt σ v) (st.set v 1) with
      | none => rw [h2] at h; cases h
      | some p =>
        rw [h2] at h
        rw [cycL_mono (fun s v r hr => cyc_mono n s v r hr) _ _ _ h2]
        exact h
theorem cycS_mono {k : Nat} : ∀ (l : List Nat) (st : List Int) (r : Bool), cycS σ k l st = some r → cycS σ (k + 1) l st = some r
  | [], _, _, h => h
  | v :: l, st, r, h => by
    rw [cycS] at h ⊢
    cases h1 : cyc σ k st v with
    | none => rw [h1] at h; cases h
    | some p =>
      rw [h1] at h
      rw [cyc_mono _ _ _ _ h1]
      obtain ⟨b, s1⟩ := p
      cases b
      · exact cycS_mono l s1 r h
      · exact h
theorem subC_up {k k' : Nat} {r : Int} (h : subC σ k = some r) (hk : k ≤ k') : subC σ k' = some r := by
  induction hk with
  | refl => exact h
  | step _ ih =>
    rw [subC] at ih ⊢
    split
    · rename_i h1
      rw [if_pos h1] at ih; exact ih
    · rename_i h1
      rw [if_neg h1] at ih
      split
      · rename_i h2
        rw [if_pos h2] at ih; exact ih
      · rename_i h2
        rw [if_neg h2] at ih
        split at ih
        · cases ih
        · rename_i h3
          rw [cycS_mono _ _ _ h3]; exact ih
        · rename_i h3
          rw [cycS_mono _ _ _ h3]
          exact sized_up ih (Nat.le_succ _)
/-- What Unify accepts. -/
structure UIn (σ : List Ty) (a b : Ty) : Prop where
  fine : Fine σ
  szd : Szd σ
  a : tyErr σ.length a = 0
  b : tyErr σ.length b = 0
section
variable {a b : Ty}
theorem UIn.wa (h : UIn σ a b) : a.Wf := tyErr_wf h.a
theorem UIn.wb (h : UIn σ a b) : b.Wf := tyErr_wf h.b
theorem UIn.va (h : UIn σ a b) : VIn σ a := (tyErr_ok h.a).2
theorem UIn.vb (h : UIn σ a b) : VIn σ b := (tyErr_ok h.b).2
theorem UIn.na (h : UIn σ a b) : nodes a ≤ 4096 := (tyErr_ok h.a).1
theorem UIn.nb (h : UIn σ a b) : nodes b ≤ 4096 := (tyErr_ok h.b).1
/-- What Unify answers. -/
structure UOut (σ τ : List Ty) (a b : Ty) : Prop where
  inn : UIn σ a b
  step : Step σ τ
  szd : Szd τ
  same : normP (ap τ a) = normP (ap τ b)
theorem unifyS_ok {k q : Nat} (h : unifyS k q σ a b = some (0, τ)) : UIn σ a b ∧ unifyP k q σ a b = some (0, τ) := by
  rw [unifyS] at h
  split at h
  · cases h
  · rename_i e h1
    split at h
    · rename_i h2
      simp only [Option.some.injEq, Prod.mk.injEq] at h
      exact absurd h.1 h2
    · rename_i h2
      obtain rfl : e = 0 := Classical.not_not.1 h2
      split at h
      · rename_i h3
        simp only [Option.some.injEq, Prod.mk.injEq] at h
        exact absurd h.1 h3
      · rename_i h3
        split at h
        · rename_i h4
          simp only [Option.some.injEq, Prod.mk.injEq] at h
          exact absurd h.1 h4
        · rename_i h4
          exact ⟨⟨subC_fine h1, subC_sized h1, Classical.not_not.1 h3, Classical.not_not.1 h4⟩, h⟩
theorem unifyS_out {k q : Nat} (h : unifyS k q σ a b = some (0, τ)) : UOut σ τ a b := by
  obtain ⟨hi, hu⟩ := unifyS_ok h
  obtain ⟨s, e⟩ := unify_ok k q _ _ _ _ hi.fine.gd hi.wa hi.wb hi.va hi.vb hu
  exact ⟨hi, s, unify_szd k q _ _ _ _ hu hi.szd, e⟩
theorem UIn.run (h : UIn σ a b) {k k' q : Nat} {r : Int × List Ty} (hs : subC σ k' = some 0) (hu : unifyP k q σ a b = some r) : unifyS (max k k') q σ a b = some r := by
  rw [unifyS, subC_up hs (Nat.le_max_right _ _)]
  dsimp only
  rw [if_neg (by simp), h.a, if_neg (by simp), h.b, if_neg (by simp)]
  exact unify_up (Nat.le_max_left _ _) q q _ _ _ _ (Nat.le_refl _) hu
/-- Unify ends. -/
theorem unifyS_total (σ : List Ty) (a b : Ty) : ∃ k q e τ, unifyS k q σ a b = some (e, τ) := by
  obtain ⟨k', r, h1, h2⟩ := subC_total σ
  by_cases hr : r = 0
  · subst hr
    by_cases ha : tyErr σ.length a = 0
    · by_cases hb : tyErr σ.length b = 0
      · have hi : UIn σ a b := ⟨h2 rfl, subC_sized h1, ha, hb⟩
        obtain ⟨k, q, ⟨e, τ⟩, hu⟩ := unify_total hi.fine.gd hi.wa hi.wb hi.va hi.vb
        exact ⟨_, q, e, τ, hi.run h1 hu⟩
      · exact ⟨k', 0, tyErr σ.length b, σ, by rw [unifyS, h1]; dsimp only; rw [if_neg (by simp), ha, if_neg (by simp), if_pos hb]⟩
    · exact ⟨k', 0, tyErr σ.length a, σ, by rw [unifyS, h1]; dsimp only; rw [if_neg (by simp), if_pos ha]⟩
  · exact ⟨k', 0, r, σ, by rw [unifyS, h1]; dsimp only; rw [if_pos hr]⟩
theorem UOut.gd (h : UOut σ τ a b) : Gd τ := h.step.gd
/-- Apply at what Unify answers: it ends, within a limit. -/
theorem ap_run (hg : Gd τ) (hs : Szd τ) {t : Ty} (hw : t.Wf) (hv : VIn τ t) (hn : nodes t ≤ 4096) : ∃ K, applyP τ K K t = some (ap τ t) ∧ (ap τ t).Wf ∧ nodes (ap τ t) ≤ 16777216 := by
  obtain ⟨K, hK⟩ := hg.ends hw hv
  exact ⟨K, hK K (Nat.le_refl _) K (Nat.le_refl _), hg.apwf hw, by have := hs.nodes hg t hv; omega⟩
/-! ### The order of the two types -/
theorem UIn.swap (h : UIn σ a b) : UIn σ b a := ⟨h.fine, h.szd, h.b, h.a⟩
/-- Where one order finds no error the other one finds none, or types that are too large. -/
theorem swap_err {k q k' q' : Nat} {e : Int} (h : unifyS k q σ a b = some (0, τ)) (h' : unifyS k' q' σ b a = some (e, υ)) : e = 0 ∨ e = 2 := by
  obtain ⟨hi, hu⟩ := unifyS_ok h
  have ho := unifyS_out h
  have hsol : Sol (appV τ) σ := ⟨appV_wf ho.gd.wf, fun v x hx => by
    have hv : v < σ.length := by
      rcases Nat.lt_or_ge v σ.length with h | h
      · exact h
      · rw [List.getElem?_eq_none h] at hx; cases hx
    cases hs : selfB σ v with
    | true =>
      obtain ⟨y, hy, h1, h2⟩ := selfB_iff.1 hs
      rw [hx] at hy
      cases hy
      rw [subT_var h1, h2]
    | false =>
      have hx' := (ho.step.keep.bound v hv hs).trans hx
      exact (sol_self ho.gd).eq v x hx'⟩
  rw [unifyS] at h'
  split at h'
  · cases h'
  · rename_i e1 h1
    obtain ⟨k2, hk2⟩ : ∃ k2, subC σ k2 = some 0 := by
      rw [unifyS] at h
      split at h
      · cases h
      · rename_i e2 h2
        split at h
        · rename_i h3
          simp only [Option.some.injEq, Prod.mk.injEq] at h
          exact absurd h.1 h3
        · rename_i h3
          rw [Classical.not_not.1 h3] at h2
          exact ⟨_, h2⟩
    have e10 : e1 = 0 := by
      have c1 := subC_up h1 (Nat.le_max_left k' k2)
      have c2 := subC_up hk2 (Nat.le_max_right k' k2)
      rw [c1] at c2
      exact Option.some.inj c2
    subst e10
    rw [if_neg (by simp), hi.b, if_neg (by simp), hi.a, if_neg (by simp)] at h'
    exact (unify_cmp down_true k' q' σ (appV τ) b a e υ hi.fine.gd hsol hi.wb hi.wa hi.vb hi.va ho.same.symm h').1
/-! Free variables. -/
theorem nodup_le : ∀ (l m : List Int), l.Nodup → (∀ x ∈ l, x ∈ m) → l.length ≤ m.length
  | [], _, _, _ => Nat.zero_le _
  | x :: l, m, hn, h => by
    obtain ⟨h1, h2⟩ := List.nodup_cons.1 hn
    have hx := h x List.mem_cons_self
    have := nodup_le l (m.erase x) h2 (fun y hy => (List.mem_erase_of_ne (fun e => h1 (by rw [← e]; exact hy))).2 (h y (List.mem_cons_of_mem _ hy)))
    rw [List.length_erase_of_mem hx] at this
    have hp := List.length_pos_of_mem hx
    rw [List.length_cons]
    omega
theorem flat_le {f : Int → List Int} : ∀ l : List Int, (∀ x ∈ l, (f x).length ≤ 1) → (l.flatMap f).length ≤ l.length
  | [], _ => Nat.le_refl _
  | x :: l, h => by
    have h1 := h x List.mem_cons_self
    have h2 := flat_le l (fun y hy => h y (List.mem_cons_of_mem _ hy))
    rw [List.flatMap_cons, List.length_append, List.length_cons]
    omega
theorem nodess_lt {f : Ty → Ty} : ∀ l : List Ty, (∀ a ∈ l, nodes a ≤ nodes (f a)) → (∃ a ∈ l, nodes a < nodes (f a)) → nodess l < nodess (l.map f)
  | [], _, h => by obtain ⟨a, ha, _⟩ := h; cases ha
  | a :: l, h, hx => by
    have h1 := h a List.mem_cons_self
    have h2 := nodess_ge l (fun b hb => h b (List.mem_cons_of_mem _ hb))
    rw [List.map_cons, nodess, nodess]
    obtain ⟨b, hb, hlt⟩ := hx
    rcases List.mem_cons.1 hb with rfl | hb
    · omega
    · have := nodess_lt l (fun b hb => h b (List.mem_cons_of_mem _ hb)) ⟨b, hb, hlt⟩
      omega
/-- Where a type does not grow its variables become leaves. -/
theorem leaves (X : Int → Ty) (t : Ty) : t.Wf → nodes (subT X t) ≤ nodes t → ∀ v ∈ freeP t, nodes (X v) ≤ 1 := by
  refine ty_ind (P := fun t => t.Wf → nodes (subT X t) ≤ nodes t → ∀ v ∈ freeP t, nodes (X v) ≤ 1) (fun t ih hw hn v hv => ?_) t
  by_cases h0 : t.kind = 0
  · rw [freeP_var h0, List.mem_singleton] at hv
    rw [subT_var h0] at hn
    have h1 := nodes_eq t
    rw [hw.leaf (.inl h0)] at h1
    have : nodess ([] : List Ty) = 0 := rfl
    rw [hv]; omega
  · obtain ⟨a, ha, hva⟩ := (freeP_args h0).1 hv
    refine ih a ha (hw.arg ha) ?_ v hva
    apply Classical.byContradiction
    intro hgt
    have h1 := nodess_lt (f := subT X) t.args (fun b hb => nodes_sub_ge X b (hw.arg hb)) ⟨a, ha, by omega⟩
    have h2 := nodes_eq t
    rw [subT_not h0, nodes] at hn
    omega
theorem free_short {X : Int → Ty} {t u : Ty} (hw : t.Wf) (hu : u.Wf) (hX : ∀ v, (X v).Wf) (h : normP (subT X t) = normP u) (hn : nodes u ≤ nodes t) : (freeP u).length ≤ (freeP t).length := by
  have h1 := nodes_of_norm (subT_wf hX t hw) hu h
  have h2 := leaves X t hw (by omega)
  refine Nat.le_trans (nodup_le (freeP u) ((freeP t).flatMap fun v => freeP (X v)) (freeP_nodup u) (fun w hw' => ?_)) (flat_le _ fun v hv => ?_)
  · rw [← norm_free hu, ← h, norm_free (subT_wf hX t hw)] at hw'
    obtain ⟨v, hv, hv2⟩ := (free_sub X w t).1 hw'
    exact List.mem_flatMap.2 ⟨v, hv, hv2⟩
  · exact Nat.le_trans (free_len _) (h2 v hv)
theorem swap_le {k q k' q' : Nat} (h : unifyS k q σ a b = some (0, τ)) (h' : unifyS k' q' σ b a = some (0, υ)) : ∃ X : Int → Ty, (∀ v, (X v).Wf) ∧ normP (subT X (ap υ a)) = normP (ap τ a) := by
  obtain ⟨hi, hu⟩ := unifyS_ok h
  have ho := unifyS_out h
  have ho' := unifyS_out h'
  have hsol : Sol (appV τ) σ := ⟨appV_wf ho.gd.wf, fun v x hx => by
    have hv : v < σ.length := by
      rcases Nat.lt_or_ge v σ.length with h | h
      · exact h
      · rw [List.getElem?_eq_none h] at hx; cases hx
    cases hs : selfB σ v with
    | true =>
      obtain ⟨y, hy, h1, h2⟩ := selfB_iff.1 hs
      rw [hx] at hy
      cases hy
      rw [subT_var h1, h2]
    | false =>
      have hx' := (ho.step.keep.bound v hv hs).trans hx
      exact (sol_self ho.gd).eq v x hx'⟩
  obtain ⟨X, g, S, _⟩ := (unify_cmp down_true k' q' σ (appV τ) b a 0 υ hi.fine.gd hsol hi.wb hi.wa hi.vb hi.va ho.same.symm (unifyS_ok h').2).2 rfl
  refine ⟨X, S.wf, ?_⟩
  rw [S.ap ho'.gd hi.wa (ho'.step.vin hi.va), g.sub hi.va]
  rfl
/-- Both orders leave as many variables. -/
theorem swap_free {k q k' q' : Nat} (h : unifyS k q σ a b = some (0, τ)) (h' : unifyS k' q' σ b a = some (0, υ)) : (freeP (ap τ a)).length = (freeP (ap υ a)).length := by
  obtain ⟨X, wX, eX⟩ := swap_le h h'
  obtain ⟨Y, wY, eY⟩ := swap_le h' h
  have ho := unifyS_out h
  have ho' := unifyS_out h'
  have wx := ho.gd.apwf ho.inn.wa
  have wy := ho'.gd.apwf ho.inn.wa
  have hb : normP (subT Y (ap τ a)) = normP (ap υ a) := by
    -- the second type's images are equal to the first one's
    have e1 : normP (subT Y (ap τ a)) = normP (subT Y (ap τ b)) := norm_sub wx (ho.gd.apwf ho.inn.wb) ho.same
    rw [e1, eY, ← ho'.same]
  have n1 := nodes_of_norm (subT_wf wX _ wy) wx eX
  have n2 := nodes_of_norm (subT_wf wY _ wx) wy hb
  have n3 := nodes_sub_ge X _ wy
  have n4 := nodes_sub_ge Y _ wx
  exact Nat.le_antisymm (free_short wy wx wX eX (by omega)) (free_short wx wy wY hb (by omega))
end
end
end Go.Proofs.YthchnabhbpdfgaaDoor
