/- Rows at a good substitution: more fuel changes nothing; what extract gives; it ends. No program in sight. The unifier: where it finds no error both types are equal, and it ends. No program in sight. -/
import Derived.Test.YthchnabhbpdfgaaDoorMSnd
section
namespace Go.Proofs.YthchnabhbpdfgaaDoor
open Go.RowKit Go.Shelf Go.Sort Stab

section
variable {σ τ υ : List Ty}
theorem Prog.trans (h : Prog σ τ) (k : Prog τ υ) : Prog σ υ := by
  unfold Prog at *
  rcases h with rfl | h | ⟨h1, h2⟩
  · exact k
  · rcases k with rfl | k | ⟨k1, k2⟩
    · exact .inr (.inl h)
    · exact .inr (.inl (by omega))
    · exact .inr (.inl (by omega))
  · rcases k with rfl | k | ⟨k1, k2⟩
    · exact .inr (.inr ⟨h1, h2⟩)
    · exact .inr (.inl (by omega))
    · exact .inr (.inr ⟨by omega, by omega⟩)
theorem Step.refl (h : Gd σ) : Step σ σ := ⟨h, Keep.refl _, .inl rfl⟩
theorem Step.trans (h : Step σ τ) (k : Step τ υ) : Step σ υ := ⟨k.gd, h.keep.trans k.keep, h.prog.trans k.prog⟩
theorem Step.ap_ap (s : Step σ τ) (h : Gd σ) {t : Ty} (hv : VIn σ t) : ap τ (ap σ t) = ap τ t := keep_ap h s.gd s.keep t hv
theorem Step.vin (s : Step σ τ) {t : Ty} (hv : VIn σ t) : VIn τ t := VIn.mono hv s.keep.len
theorem walk_wf (h : ∀ x ∈ σ, x.Wf) : ∀ (k : Nat) (t r : Ty), t.Wf → walkP σ k t = some r → r.Wf
  | 0, _, _, _, e => by cases e
  | k + 1, t, r, hw, e => by
    rw [walkP] at e
    split at e
    · split at e
      · cases e
      · rename_i x hx
        split at e
        · rw [← Option.some.inj e]; exact hw
        · exact walk_wf h k x r (h x (List.mem_of_getElem? hx)) e
    · rw [← Option.some.inj e]; exact hw
theorem walk_step (h : Gd σ) (s : Step σ τ) {k : Nat} {t r : Ty} (hv : VIn σ t) (e : walkP σ k t = some r) : ap τ r = ap τ t := by
  obtain ⟨h1, h2, _⟩ := walk_ap h k t r hv e
  rw [← s.ap_ap h h2, ← s.ap_ap h hv, h1]
theorem extT_wf {l : ByteArray} {x y : Ty} (hx : x.Wf) (hy : y.Wf) : (extT l x y).Wf := by
  refine .mk 5 l 0 [x, y] (by decide) (fun _ => rfl) (fun _ => rfl) (fun _ h => absurd rfl h) (fun h => absurd h (by decide)) (fun a ha => ?_)
  rcases List.mem_cons.1 ha with rfl | ha
  · exact hx
  · rw [List.mem_singleton.1 ha]; exact hy
theorem row_form {t : Ty} (h : t.Wf) (h5 : t.kind = 5) : ∃ x y, t = extT t.name x y ∧ x.Wf ∧ y.Wf := by
  obtain ⟨x, y, e⟩ := h.two h5
  refine ⟨x, y, ?_, h.arg (by rw [e]; simp), h.arg (by rw [e]; simp)⟩
  have hv : t.var = 0 := by cases h with | mk k n v l hk hs hv hn h0 hl => exact hv (by show k ≠ 0; rw [show k = 5 from h5]; decide)
  cases t with
  | mk k n v l =>
    have e1 : k = 5 := h5
    have e2 : v = 0 := hv
    have e3 : l = [x, y] := e
    rw [e1, e2, e3]; rfl
theorem ap_extT (l : ByteArray) (x y : Ty) : ap σ (extT l x y) = extT l (ap σ x) (ap σ y) := subT_ext _ _ _ _
theorem ap_row {c x y : Ty} (e : c = extT c.name x y) : ap σ c = extT c.name (ap σ x) (ap σ y) := by
  have : ap σ c = ap σ (extT c.name x y) := congrArg _ e
  rw [this, ap_extT]
theorem nodes_extT (l : ByteArray) (x y : Ty) : nodes (extT l x y) = nodes x + nodes y + 1 := by
  rw [nodes_eq]
  show nodes x + (nodes y + 0) + 1 = _
  omega
theorem norm_extT {l : ByteArray} {x x' y y' : Ty} (hx : x.Wf) (hx' : x'.Wf) (hy : y.Wf) (hy' : y'.Wf) (h1 : normP x = normP x') (h2 : normP y = normP y') : normP (extT l x y) = normP (extT l x' y') := by
  obtain ⟨e1, e2⟩ := (eqv_iff hy.nok hy'.nok).1 h2
  refine (eqv_iff (extT_wf hx hy).nok (extT_wf hx' hy').nok).2 ⟨fun n => ?_, ?_⟩
  · rw [rowP_extT, rowP_extT]
    dsimp only
    rw [fl_cons, fl_cons, h1, e1]
  · rw [rowP_extT, rowP_extT]; exact e2
theorem norm_swap {l m : ByteArray} {x y r : Ty} (hx : x.Wf) (hy : y.Wf) (hr : r.Wf) (hn : l ≠ m) : normP (extT l x (extT m y r)) = normP (extT m y (extT l x r)) := by
  refine (eqv_iff (extT_wf hx (extT_wf hy hr)).nok (extT_wf hy (extT_wf hx hr)).nok).2 ⟨fun n => ?_, ?_⟩
  · rw [rowP_extT, rowP_extT, rowP_extT, rowP_extT]
    dsimp only
    rw [fl_cons, fl_cons, fl_cons, fl_cons]
    dsimp only
    by_cases h1 : l = n
    · by_cases h2 : m = n
      · exact absurd (h1.trans h2.symm) hn
      · rw [if_pos h1, if_neg h2, if_neg h2, if_pos h1]
    · rw [if_neg h1, if_neg h1]
  · rw [rowP_extT, rowP_extT, rowP_extT, rowP_extT]
theorem ap_norm (_ : Step σ τ) {t u : Ty} (ht : t.Wf) (hu : u.Wf) (h : normP t = normP u) : normP (ap τ t) = normP (ap τ u) := norm_sub ht hu h
/-! ### Two fresh variables -/
theorem fresh_step (h : Gd σ) {v : Int} (hv : Open σ v) (hl : σ.length + 2 ≤ 4096) (label : ByteArray) {τ : List Ty}
    (e : τ = (σ ++ [varT (σ.length : Int), varT ((σ.length : Int) + 1)]).set v.toNat (extT label (varT (σ.length : Int)) (varT ((σ.length : Int) + 1)))) :
    Step σ τ ∧ ap τ (varT v) = extT label (varT (σ.length : Int)) (varT ((σ.length : Int) + 1)) ∧ ap τ (varT (σ.length : Int)) = varT (σ.length : Int) ∧ ap τ (varT ((σ.length : Int) + 1)) = varT ((σ.length : Int) + 1) ∧ selfB τ σ.length = true ∧ selfB τ (σ.length + 1) = true := by
  obtain ⟨v0, v1, v2⟩ := hv
  have hvl : v.toNat < σ.length := by omega
  have hvc : ((v.toNat : Nat) : Int) = v := by omega
  have hg2 := h.two hl
  have hlen : (σ ++ [varT (σ.length : Int), varT ((σ.length : Int) + 1)]).length = σ.length + 2 := by simp
  have hfr : ∀ w ∈ freeP (extT label (varT (σ.length : Int)) (varT ((σ.length : Int) + 1))), w = (σ.length : Int) ∨ w = (σ.length : Int) + 1 := fun w hw => by
    obtain ⟨a, ha, hwa⟩ := (freeP_args (t := extT label (varT (σ.length : Int)) (varT ((σ.length : Int) + 1))) (show (5 : Int) ≠ 0 by decide)).1 hw
    have ha' : a = varT (σ.length : Int) ∨ a = varT ((σ.length : Int) + 1) := by simpa [extT, Ty.args] using ha
    rcases ha' with rfl | rfl
    · rw [freeP_var rfl, List.mem_singleton] at hwa; exact .inl hwa
    · rw [freeP_var rfl, List.mem_singleton] at hwa; exact .inr hwa
  have hwf : (extT label (varT (σ.length : Int)) (varT ((σ.length : Int) + 1))).Wf := extT_wf (varT_wf (by omega)) (varT_wf (by omega))
  have hg : Gd τ := by
    rw [e]
    refine hg2.set (v := v.toNat) (by omega) hwf (fun w hw => ?_) (fun w hw => ?_)
    · rw [hlen]; have := hfr w hw; omega
    · have := hfr w hw
      refine .self w.toNat (by omega) (self_new _ (by omega))
  have hne : ∀ n, n = σ.length ∨ n = σ.length + 1 → selfB τ n = true := fun n hn => by
    rw [e, selfB_set _ (by omega)]; exact self_new n hn
  have hget : τ[v.toNat]? = some (extT label (varT (σ.length : Int)) (varT ((σ.length : Int) + 1))) := by rw [e, List.getElem?_set_self (by omega)]
  have hsb : selfB τ v.toNat = false := by unfold selfB; rw [hget]; rfl
  have hA : ap τ (varT (σ.length : Int)) = varT (σ.length : Int) := hg.appV_self (hne _ (.inl rfl))
  have hB : ap τ (varT ((σ.length : Int) + 1)) = varT ((σ.length : Int) + 1) := by
    have := hg.appV_self (hne _ (.inr rfl))
    rw [show (((σ.length + 1 : Nat)) : Int) = (σ.length : Int) + 1 by omega] at this
    exact this
  refine ⟨⟨hg, ⟨by rw [e, List.length_set, hlen]; omega, fun u hu hs => ?_⟩, .inr (.inl (by rw [e, List.length_set, hlen]; omega))⟩, ?_, hA, hB, hne _ (.inl rfl), hne _ (.inr rfl)⟩
  · rw [e, get_set_ne _ (fun e2 => by rw [e2, v2] at hs; cases hs), get_two hu]
  · have := hg.appV_to hget hsb
    rw [hvc] at this
    rw [ap_var rfl, show (varT v).var = v from rfl, this, ap_extT, hA, hB]
/-! ### More fuel -/
theorem tailL_up {k k' : Nat} (hk : k ≤ k') : ∀ (q q' : Nat) (t : Ty) (r : Int), q ≤ q' → tailL σ k q t = some r → tailL σ k' q' t = some r
  | 0, _, _, _, _, h => by cases h
  | q + 1, 0, _, _, hq, _ => by omega
  | q + 1, q' + 1, t, r, hq, h => by
    rw [tailL] at h ⊢
    split
    · rename_i h5
      rw [if_pos h5] at h
      split
      · rename_i x y m e
        rw [e] at h
        dsimp only at h
        cases hw : walkP σ k y with
        | none => rw [hw] at h; cases h
        | some y' =>
          rw [hw] at h
          rw [walk_up hw hk]
          exact tailL_up hk q q' y' r (by omega) h
      · rename_i e
        split at h
        · rename_i x y m e2
          exact absurd e2 (e x y m)
        · exact h
    · rename_i h5
      rw [if_neg h5] at h; exact h
theorem tailP_up {k k' : Nat} (hk : k ≤ k') {t : Ty} {r : Int} (h : tailP σ k t = some r) : tailP σ k' t = some r := by
  rw [tailP] at h ⊢
  cases hw : walkP σ k t with
  | none => rw [hw] at h; cases h
  | some t' =>
    rw [hw] at h
    rw [walk_up hw hk]
    exact tailL_up hk k k' t' r hk h
theorem extract_up {k k' : Nat} (hk : k ≤ k') (label : ByteArray) (not : Int) : ∀ (q q' : Nat) (σ : List Ty) (row : Ty) (r : Ty × Ty × Int × List Ty), q ≤ q' → extractP k label not q σ row = some r → extractP k' label not q' σ row = some r
  | 0, _, _, _, _, _, h => by cases h
  | q + 1, 0, _, _, _, hq, _ => by omega
  | q + 1, q' + 1, σ, row, r, hq, h => by
    rw [extractP] at h ⊢
    cases hw : walkP σ k row with
    | none => rw [hw] at h; cases h
    | some c =>
      rw [hw] at h
      rw [walk_up hw hk]
      dsimp only at h ⊢
      split
      · rename_i h0
        rw [if_pos h0] at h
        split
        · rename_i h1
          rw [if_pos h1] at h; exact h
        · rename_i h1
          rw [if_neg h1] at h
          split
          · rename_i h2
            rw [if_pos h2] at h; exact h
          · rename_i h2
            rw [if_neg h2] at h
            split at h
            · cases h
            · rename_i e h3
              rw [sized_up h3 hk]; exact h
      · rename_i h0
        rw [if_neg h0] at h
        split
        · rename_i h1
          rw [if_pos h1] at h; exact h
        · rename_i h1
          rw [if_neg h1] at h
          split
          · rename_i x y m e
            rw [e] at h
            dsimp only at h
            split
            · rename_i h2
              rw [if_pos h2] at h; exact h
            · rename_i h2
              rw [if_neg h2] at h
              split at h
              · cases h
              · rename_i t rest e1 σ1 h3
                rw [extract_up hk label not q q' σ y _ (by omega) h3]; exact h
          · rename_i e
            split at h
            · rename_i x y m e2
              exact absurd e2 (e x y m)
            · exact h
/-! ### What extract gives -/
theorem extract_ok (k : Nat) (label : ByteArray) (not : Int) : ∀ (q : Nat) (σ : List Ty) (row t rest : Ty) (τ : List Ty), Gd σ → row.Wf → VIn σ row → extractP k label not q σ row = some (t, rest, 0, τ) →
    Step σ τ ∧ t.Wf ∧ rest.Wf ∧ normP (ap τ row) = normP (extT label (ap τ t) (ap τ rest)) ∧ nodes (ap τ row) = nodes (ap τ t) + nodes (ap τ rest) + 1
  | 0, _, _, _, _, _, _, _, _, h => by cases h
  | q + 1, σ, row, t, rest, τ, hg, hw, hv, h => by
    rw [extractP] at h
    cases hwk : walkP σ k row with
    | none => rw [hwk] at h; cases h
    | some c =>
      rw [hwk] at h
      dsimp only at h
      obtain ⟨_, c2, c3⟩ := walk_ap hg k row c hv hwk
      have hcw := walk_wf hg.wf k row c hw hwk
      split at h
      · rename_i h0
        have ho := c3 h0
        split at h
        · simp only [Option.some.injEq, Prod.mk.injEq] at h
          exact absurd h.2.2.1 (by decide)
        · split at h
          · simp only [Option.some.injEq, Prod.mk.injEq] at h
            exact absurd h.2.2.1 (by decide)
          · rename_i hl
            split at h
            · cases h
            · simp only [Option.some.injEq, Prod.mk.injEq] at h
              obtain ⟨rfl, rfl, rfl, h4⟩ := h
              obtain ⟨s, e1, e2, e3, _⟩ := fresh_step hg ho (by omega) label h4.symm
              refine ⟨s, varT_wf (by omega), varT_wf (by omega), ?_, ?_⟩
              · rw [← walk_step hg s hv hwk, wf_var hcw h0, e1, e2, e3]
              · rw [← walk_step hg s hv hwk, wf_var hcw h0, e1, e2, e3, nodes_extT]
      · rename_i h0
        split at h
        · simp only [Option.some.injEq, Prod.mk.injEq] at h
          exact absurd h.2.2.1 (by decide)
        · rename_i h5
          have h5' : c.kind = 5 := Classical.not_not.1 h5
          obtain ⟨x, y, ec, hxw, hyw⟩ := row_form hcw h5'
          have hargs : c.args = [x, y] := by rw [ec]; rfl
          have hvx : VIn σ x := c2.arg h0 (by rw [hargs]; simp)
          have hvy : VIn σ y := c2.arg h0 (by rw [hargs]; simp)
          rw [hargs] at h
          dsimp only at h
          split at h
          · rename_i hn
            simp only [Option.some.injEq, Prod.mk.injEq, true_and] at h
            obtain ⟨rfl, rfl, rfl⟩ := h
            refine ⟨.refl hg, hxw, hyw, ?_, ?_⟩
            · rw [← walk_step hg (.refl hg) hv hwk, ap_row ec, hn]
            · rw [← walk_step hg (.refl hg) hv hwk, ap_row ec, nodes_extT]
          · rename_i hn
            split at h
            · cases h
            · rename_i t1 rest1 e1 σ1 hx
              simp only [Option.some.injEq, Prod.mk.injEq] at h
              obtain ⟨rfl, rfl, rfl, rfl⟩ := h
              obtain ⟨s, w1, w2, i1, i2⟩ := extract_ok k label not q σ y _ _ _ hg hyw hvy hx
              refine ⟨s, w1, extT_wf hxw w2, ?_, ?_⟩
              · rw [← walk_step hg s hv hwk, ap_row ec, ap_extT]
                rw [norm_swap (s.gd.apwf w1) (s.gd.apwf hxw) (s.gd.apwf w2) (fun e => hn e.symm)]
                exact norm_extT (s.gd.apwf hxw) (s.gd.apwf hxw) (s.gd.apwf hyw) (extT_wf (s.gd.apwf w1) (s.gd.apwf w2)) rfl i1
              · rw [← walk_step hg s hv hwk, ap_row ec, ap_extT, nodes_extT, nodes_extT]
                omega
theorem extract_total (label : ByteArray) (not : Int) (hg : Gd σ) : ∀ (n : Nat) (row : Ty), nodes (ap σ row) ≤ n → row.Wf → VIn σ row → ∃ k q r, extractP k label not q σ row = some r
  | 0, row, hn, _, _ => by have := nodes_eq (ap σ row); omega
  | n + 1, row, hn, hw, hv => by
    obtain ⟨K, c, hK⟩ := walk_total hg row hv
    have hwk := hK K (Nat.le_refl _)
    obtain ⟨c1, c2, c3⟩ := walk_ap hg K row c hv hwk
    have hcw := walk_wf hg.wf K row c hw hwk
    by_cases h0 : c.kind = 0
    · by_cases h1 : c.var = not
      · exact ⟨K, 1, (zeroT, zeroT, 8, σ), by rw [extractP, hwk]; dsimp only; rw [if_pos h0, if_pos h1]⟩
      · by_cases h2 : 4096 < σ.length + 2
        · exact ⟨K, 1, (zeroT, zeroT, 2, σ ++ [varT (σ.length : Int), varT ((σ.length : Int) + 1)]), by rw [extractP, hwk]; dsimp only; rw [if_pos h0, if_neg h1, if_pos h2]⟩
        · obtain ⟨s, _⟩ := fresh_step hg (c3 h0) (by omega) label rfl
          obtain ⟨K2, e, he⟩ := s.gd.sized
          refine ⟨max K K2, 1, (varT (σ.length : Int), varT ((σ.length : Int) + 1), e, (σ ++ [varT (σ.length : Int), varT ((σ.length : Int) + 1)]).set c.var.toNat (extT label (varT (σ.length : Int)) (varT ((σ.length : Int) + 1)))), ?_⟩
          rw [extractP, walk_up hwk (Nat.le_max_left _ _)]
          dsimp only
          rw [if_pos h0, if_neg h1, if_neg h2, sized_up he (Nat.le_max_right _ _)]
    · by_cases h5 : c.kind = 5
      · obtain ⟨x, y, ec, hxw, hyw⟩ := row_form hcw h5
        have hargs : c.args = [x, y] := by rw [ec]; rfl
        have hvy : VIn σ y := c2.arg h0 (by rw [hargs]; simp)
        by_cases hn' : c.name = label
        · exact ⟨K, 1, (x, y, 0, σ), by rw [extractP, hwk]; dsimp only; rw [if_neg h0, if_neg (fun h => h h5), hargs]; dsimp only; rw [if_pos hn']⟩
        · have hlt : nodes (ap σ y) ≤ n := by
            rw [← c1, ap_row ec, nodes_extT] at hn
            omega
          obtain ⟨k, q, ⟨t, rest, e, σ1⟩, hr⟩ := extract_total label not hg n y hlt hyw hvy
          refine ⟨max K k, q + 1, (t, extT c.name x rest, e, σ1), ?_⟩
          rw [extractP, walk_up hwk (Nat.le_max_left _ _)]
          dsimp only
          rw [if_neg h0, if_neg (fun h => h h5), hargs]
          dsimp only
          rw [if_neg hn', extract_up (Nat.le_max_right K k) label not q q σ y _ (Nat.le_refl _) hr]
      · exact ⟨K, 1, (zeroT, zeroT, 10, σ), by rw [extractP, hwk]; dsimp only; rw [if_neg h0, if_pos h5]⟩
theorem tailL_total (hg : Gd σ) : ∀ (n : Nat) (t : Ty), nodes (ap σ t) ≤ n → t.Wf → VIn σ t → ∃ k q r, tailL σ k q t = some r
  | 0, t, hn, _, _ => by have := nodes_eq (ap σ t); omega
  | n + 1, t, hn, hw, hv => by
    by_cases h5 : t.kind = 5
    · obtain ⟨x, y, et, hxw, hyw⟩ := row_form hw h5
      have hargs : t.args = [x, y] := by rw [et]; rfl
      have hvy : VIn σ y := hv.arg (by rw [h5]; decide) (by rw [hargs]; simp)
      obtain ⟨K, c, hK⟩ := walk_total hg y hvy
      have hwk := hK K (Nat.le_refl _)
      obtain ⟨c1, c2, c3⟩ := walk_ap hg K y c hvy hwk
      have hcw := walk_wf hg.wf K y c hyw hwk
      have hlt : nodes (ap σ c) ≤ n := by
        rw [ap_row et, nodes_extT] at hn
        rw [c1]; omega
      obtain ⟨k, q, r, hr⟩ := tailL_total hg n c hlt hcw c2
      refine ⟨max K k, q + 1, r, ?_⟩
      rw [tailL, if_pos h5, hargs]
      dsimp only
      rw [walk_up hwk (Nat.le_max_left _ _)]
      exact tailL_up (Nat.le_max_right _ _) q q c r (Nat.le_refl _) hr
    · exact ⟨0, 1, if t.kind = 0 then t.var else -1, by rw [tailL, if_neg h5]⟩
theorem tailP_total (hg : Gd σ) {t : Ty} (hw : t.Wf) (hv : VIn σ t) : ∃ k r, tailP σ k t = some r := by
  obtain ⟨K, c, hK⟩ := walk_total hg t hv
  have hwk := hK K (Nat.le_refl _)
  obtain ⟨c1, c2, c3⟩ := walk_ap hg K t c hv hwk
  have hcw := walk_wf hg.wf K t c hw hwk
  obtain ⟨k, q, r, hr⟩ := tailL_total hg _ c (Nat.le_refl _) hcw c2
  refine ⟨max K (max k q), r, ?_⟩
  rw [tailP, walk_up hwk (Nat.le_max_left _ _)]
  exact tailL_up (by omega) q _ c r (by omega) hr
end
end Go.Proofs.YthchnabhbpdfgaaDoor
end

section
namespace Go.Proofs.YthchnabhbpdfgaaDoor
open Go.RowKit Go.Shelf Go.Sort Stab

section
variable {σ τ υ : List Ty}
theorem unifyL_mono {f g : List Ty → Ty → Ty → Option (Int × List Ty)} (hfg : ∀ σ a b r, f σ a b = some r → g σ a b = some r) : ∀ (l m : List Ty) (σ : List Ty) (r : Int × List Ty), unifyL f l m σ = some r → unifyL g l m σ = some r
  | a :: l, b :: m, σ, r, h => by
    rw [unifyL] at h ⊢
    cases h1 : f σ a b with
    | none => rw [h1] at h; cases h
    | some p =>
      obtain ⟨e, σ1⟩ := p
      rw [h1] at h
      rw [hfg _ _ _ _ h1]
      dsimp only at h ⊢
      split
      · rename_i h2
        rw [if_pos h2] at h; exact h
      · rename_i h2
        rw [if_neg h2] at h; exact unifyL_mono hfg l m σ1 r h
  | [], _, _, _, h => h
  | _ :: _, [], _, _, h => h
theorem rows_mono {k k' : Nat} (hk : k ≤ k') {f g : List Ty → Ty → Ty → Option (Int × List Ty)} (hfg : ∀ σ a b r, f σ a b = some r → g σ a b = some r) {a b : Ty} {r : Int × List Ty} (h : rowsP k f σ a b = some r) : rowsP k' g σ a b = some r := by
  rw [rowsP] at h ⊢
  cases h1 : tailP σ k a with
  | none => rw [h1] at h; cases h
  | some n =>
    rw [h1] at h
    rw [tailP_up hk h1]
    dsimp only at h ⊢
    cases h2 : extractP k a.name n k σ b with
    | none => rw [h2] at h; cases h
    | some p =>
      obtain ⟨t, rest, e, σ1⟩ := p
      rw [h2] at h
      rw [extract_up hk a.name n k k' σ b _ hk h2]
      dsimp only at h ⊢
      split
      · rename_i h3
        rw [if_pos h3] at h; exact h
      · rename_i h3
        rw [if_neg h3] at h
        split
        · rename_i x y m ha
          rw [ha] at h
          dsimp only at h
          cases h4 : f σ1 x t with
          | none => rw [h4] at h; cases h
          | some p =>
            obtain ⟨e2, σ2⟩ := p
            rw [h4] at h
            rw [hfg _ _ _ _ h4]
            dsimp only at h ⊢
            split
            · rename_i h5
              rw [if_pos h5] at h; exact h
            · rename_i h5
              rw [if_neg h5] at h; exact hfg _ _ _ _ h
        · rename_i ha
          split at h
          · rename_i x y m e2
            exact absurd e2 (ha x y m)
          · exact h
theorem unify_up {k k' : Nat} (hk : k ≤ k') : ∀ (q q' : Nat) (σ : List Ty) (a b : Ty) (r : Int × List Ty), q ≤ q' → unifyP k q σ a b = some r → unifyP k' q' σ a b = some r
  | 0, _, _, _, _, _, _, h => by cases h
  | q + 1, 0, _, _, _, _, hq, _ => by omega
  | q + 1, q' + 1, σ, a, b, r, hq, h => by
    have ih := fun σ a b r => unify_up hk q q' σ a b r (by omega)
    rw [unifyP] at h ⊢
    cases h1 : walkP σ k a with
    | none => rw [h1] at h; cases h
    | some a' =>
      rw [h1] at h
      rw [walk_up h1 hk]
      dsimp only at h ⊢
      cases h2 : walkP σ k b with
      | none => rw [h2] at h; cases h
      | some b' =>
        rw [h2] at h
        rw [walk_up h2 hk]
        dsimp only at h ⊢
        split
        · rename_i c1
          rw [if_pos c1] at h; exact bind_up h hk
        · rename_i c1
          rw [if_neg c1] at h
          split
          · rename_i c2
            rw [if_pos c2] at h; exact bind_up h hk
          · rename_i c2
            rw [if_neg c2] at h
            split
            · rename_i c3
              rw [if_pos c3] at h; exact rows_mono hk ih h
            · rename_i c3
              rw [if_neg c3] at h
              split
              · rename_i c4
                rw [if_pos c4] at h; exact h
              · rename_i c4
                rw [if_neg c4] at h; exact unifyL_mono ih _ _ _ _ h
/-! ### Soundness -/
theorem later_eq (hg : Gd σ) (s : Step σ τ) {a b : Ty} (wa : a.Wf) (wb : b.Wf) (va : VIn σ a) (vb : VIn σ b) (h : normP (ap σ a) = normP (ap σ b)) : normP (ap τ a) = normP (ap τ b) := by
  rw [← s.ap_ap hg va, ← s.ap_ap hg vb]
  exact ap_norm s (hg.apwf wa) (hg.apwf wb) h
theorem bind_ok (hg : Gd σ) {k : Nat} {v : Int} (hv : Open σ v) {t : Ty} (ht : t.Wf) (hV : VIn σ t) (h : bindP k σ v t = some (0, τ)) : Step σ τ ∧ ap τ (varT v) = ap τ t := by
  obtain ⟨k', e', τ', h', hi⟩ := bind_res hg hv ht hV
  have h1 := bind_up h (Nat.le_max_left k k')
  have h2 := bind_up h' (Nat.le_max_right k k')
  rw [h1] at h2
  simp only [Option.some.injEq, Prod.mk.injEq] at h2
  obtain ⟨e1, e2⟩ := h2
  rw [e2]
  exact hi e1.symm
theorem normP_not {t : Ty} (h5 : t.kind ≠ 5) : normP t = .mk t.kind t.name t.var (t.args.map normP) := by unfold normP fin; rw [rowP_not h5]; rfl
theorem var_zero {t : Ty} (h : t.Wf) (h0 : t.kind ≠ 0) : t.var = 0 := by cases h with | mk k n v l hk hs hv hn h0' hl => exact hv h0
def Sound (f : List Ty → Ty → Ty → Option (Int × List Ty)) : Prop := ∀ (σ : List Ty) (a b : Ty) (τ : List Ty), Gd σ → a.Wf → b.Wf → VIn σ a → VIn σ b → f σ a b = some (0, τ) → Step σ τ ∧ normP (ap τ a) = normP (ap τ b)
theorem unifyL_ok {f : List Ty → Ty → Ty → Option (Int × List Ty)} (hf : Sound f) : ∀ (l m σ τ : List Ty), Gd σ → (∀ a ∈ l, a.Wf ∧ VIn σ a) → (∀ b ∈ m, b.Wf ∧ VIn σ b) → l.length = m.length → unifyL f l m σ = some (0, τ) →
    Step σ τ ∧ l.map (fun a => normP (ap τ a)) = m.map (fun a => normP (ap τ a))
  | [], [], σ, τ, hg, _, _, _, h => by
    simp only [unifyL, Option.some.injEq, Prod.mk.injEq, true_and] at h
    subst h
    exact ⟨.refl hg, rfl⟩
  | [], _ :: _, _, _, _, _, _, hl, _ => by cases hl
  | _ :: _, [], _, _, _, _, _, hl, _ => by cases hl
  | a :: l, b :: m, σ, τ, hg, ha, hb, hl, h => by
    rw [unifyL] at h
    cases h1 : f σ a b with
    | none => rw [h1] at h; cases h
    | some p =>
      obtain ⟨e, σ1⟩ := p
      rw [h1] at h
      dsimp only at h
      split at h
      · rename_i h2
        simp only [Option.some.injEq, Prod.mk.injEq] at h
        exact absurd h.1 h2
      · rename_i h2
        obtain rfl : e = 0 := Classical.not_not.1 h2
        obtain ⟨wa, va⟩ := ha a List.mem_cons_self
        obtain ⟨wb, vb⟩ := hb b List.mem_cons_self
        obtain ⟨s1, e1⟩ := hf _ _ _ _ hg wa wb va vb h1
        obtain ⟨s2, e2⟩ := unifyL_ok hf l m σ1 τ s1.gd (fun x hx => ⟨(ha x (List.mem_cons_of_mem _ hx)).1, s1.vin (ha x (List.mem_cons_of_mem _ hx)).2⟩) (fun x hx => ⟨(hb x (List.mem_cons_of_mem _ hx)).1, s1.vin (hb x (List.mem_cons_of_mem _ hx)).2⟩) (by simpa using hl) h
        refine ⟨s1.trans s2, ?_⟩
        rw [List.map_cons, List.map_cons, e2]
        congr 1
        exact later_eq s1.gd s2 wa wb (s1.vin va) (s1.vin vb) e1
theorem rows_ok {k : Nat} {f : List Ty → Ty → Ty → Option (Int × List Ty)} (hf : Sound f) (hg : Gd σ) {a b : Ty} (wa : a.Wf) (wb : b.Wf) (va : VIn σ a) (vb : VIn σ b) (h5 : a.kind = 5) (h : rowsP k f σ a b = some (0, τ)) : Step σ τ ∧ normP (ap τ a) = normP (ap τ b) := by
  rw [rowsP] at h
  split at h
  · cases h
  · rename_i n h1
    split at h
    · cases h
    · rename_i t rest e σ1 h2
      split at h
      · rename_i h3
        simp only [Option.some.injEq, Prod.mk.injEq] at h
        exact absurd h.1 h3
      · rename_i h3
        obtain rfl : e = 0 := Classical.not_not.1 h3
        obtain ⟨x, y, ea, hxw, hyw⟩ := row_form wa h5
        have hargs : a.args = [x, y] := by rw [ea]; rfl
        have h0 : a.kind ≠ 0 := by rw [h5]; decide
        have hvx : VIn σ x := va.arg h0 (by rw [hargs]; simp)
        have hvy : VIn σ y := va.arg h0 (by rw [hargs]; simp)
        obtain ⟨s1, w1, w2, i1, _⟩ := extract_ok _ _ _ _ _ _ _ _ _ hg wb vb h2
        obtain ⟨v1, v2⟩ := extractP_in _ _ _ _ _ _ _ _ _ _ hg.inn vb h2 rfl
        rw [hargs] at h
        dsimp only at h
        split at h
        · cases h
        · rename_i e2 σ2 h4
          split at h
          · rename_i h6
            simp only [Option.some.injEq, Prod.mk.injEq] at h
            exact absurd h.1 h6
          · rename_i h6
            obtain rfl : e2 = 0 := Classical.not_not.1 h6
            obtain ⟨s2, i2⟩ := hf _ _ _ _ s1.gd hxw w1 (s1.vin hvx) v1 h4
            obtain ⟨s3, i3⟩ := hf _ _ _ _ s2.gd hyw w2 ((s1.trans s2).vin hvy) (s2.vin v2) h
            have s23 := s2.trans s3
            refine ⟨s1.trans s23, ?_⟩
            have k1 : normP (ap τ b) = normP (extT a.name (ap τ t) (ap τ rest)) := by
              have := ap_norm s23 (s1.gd.apwf wb) (extT_wf (s1.gd.apwf w1) (s1.gd.apwf w2)) i1
              rw [s23.ap_ap s1.gd (s1.vin vb), ap_extT, s23.ap_ap s1.gd v1, s23.ap_ap s1.gd v2] at this
              exact this
            rw [k1]
            rw [ap_row ea]
            exact norm_extT (s3.gd.apwf hxw) (s3.gd.apwf w1) (s3.gd.apwf hyw) (s3.gd.apwf w2) (later_eq s2.gd s3 hxw w1 ((s1.trans s2).vin hvx) (s2.vin v1) i2) i3
theorem unify_ok (k : Nat) : ∀ q : Nat, Sound (unifyP k q)
  | 0 => fun _ _ _ _ _ _ _ _ _ h => by cases h
  | q + 1 => fun σ a b τ hg wa wb va vb h => by
    have ih := unify_ok k q
    rw [unifyP] at h
    cases h1 : walkP σ k a with
    | none => rw [h1] at h; cases h
    | some a' =>
      rw [h1] at h
      dsimp only at h
      cases h2 : walkP σ k b with
      | none => rw [h2] at h; cases h
      | some b' =>
        rw [h2] at h
        dsimp only at h
        obtain ⟨_, va', oa⟩ := walk_ap hg k a a' va h1
        obtain ⟨_, vb', ob⟩ := walk_ap hg k b b' vb h2
        have wa' := walk_wf hg.wf k a a' wa h1
        have wb' := walk_wf hg.wf k b b' wb h2
        have fin : Step σ τ ∧ normP (ap τ a') = normP (ap τ b') → Step σ τ ∧ normP (ap τ a) = normP (ap τ b) := fun ⟨s, e⟩ => ⟨s, by rw [← walk_step hg s va h1, ← walk_step hg s vb h2]; exact e⟩
        refine fin ?_
        split at h
        · rename_i c1
          obtain ⟨s, e⟩ := bind_ok hg (oa c1) wb' vb' h
          refine ⟨s, ?_⟩
          rw [← e, wf_var wa' c1]; rfl
        · rename_i c1
          split at h
          · rename_i c2
            obtain ⟨s, e⟩ := bind_ok hg (ob c2) wa' va' h
            refine ⟨s, ?_⟩
            rw [← e, wf_var wb' c2]; rfl
          · rename_i c2
            split at h
            · rename_i c3
              exact rows_ok ih hg wa' wb' va' vb' c3.1 h
            · rename_i c3
              split at h
              · rename_i c4
                simp only [Option.some.injEq, Prod.mk.injEq] at h
                exact absurd h.1 (by decide)
              · rename_i c4
                have k1 : a'.kind = b'.kind := Classical.byContradiction fun e => c4 (.inl e)
                have k2 : a'.name = b'.name := Classical.byContradiction fun e => c4 (.inr (.inl e))
                have k3 : a'.args.length = b'.args.length := Classical.byContradiction fun e => c4 (.inr (.inr e))
                have k5 : a'.kind ≠ 5 := fun e => c3 ⟨e, by rw [← k1, e]; decide⟩
                have k5' : b'.kind ≠ 5 := by rw [← k1]; exact k5
                obtain ⟨s, e⟩ := unifyL_ok ih _ _ _ _ hg (fun x hx => ⟨wa'.arg hx, va'.arg c1 hx⟩) (fun x hx => ⟨wb'.arg hx, vb'.arg c2 hx⟩) k3 h
                refine ⟨s, ?_⟩
                rw [ap_not c1, ap_not c2, normP_not (t := .mk a'.kind a'.name a'.var (a'.args.map (ap τ))) k5, normP_not (t := .mk b'.kind b'.name b'.var (b'.args.map (ap τ))) k5']
                show Ty.mk a'.kind a'.name a'.var ((a'.args.map (ap τ)).map normP) = Ty.mk b'.kind b'.name b'.var ((b'.args.map (ap τ)).map normP)
                rw [List.map_map, List.map_map, k1, k2, var_zero wa' c1, var_zero wb' c2]
                congr 1
/-! ### It ends -/
def Tm (σ : List Ty) (a b : Ty) : Prop := ∃ k q r, unifyP k q σ a b = some r
theorem unifyL_total (σ : List Ty) : ∀ (l m σ' : List Ty), Step σ σ' → (∀ a ∈ l, a.Wf ∧ VIn σ a) → (∀ b ∈ m, b.Wf ∧ VIn σ b) → (∀ σ' x y, Step σ σ' → x ∈ l → y ∈ m → Tm σ' x y) → ∃ k q r, unifyL (unifyP k q) l m σ' = some r
  | [], _, σ', _, _, _, _ => ⟨0, 0, _, rfl⟩
  | _ :: _, [], σ', _, _, _, _ => ⟨0, 0, _, rfl⟩
  | a :: l, b :: m, σ', s, ha, hb, hT => by
    obtain ⟨k1, q1, ⟨e, σ1⟩, h1⟩ := hT σ' a b s List.mem_cons_self List.mem_cons_self
    by_cases he : e = 0
    · subst he
      obtain ⟨wa, va⟩ := ha a List.mem_cons_self
      obtain ⟨wb, vb⟩ := hb b List.mem_cons_self
      obtain ⟨s1, _⟩ := unify_ok k1 q1 _ _ _ _ s.gd wa wb (s.vin va) (s.vin vb) h1
      obtain ⟨k2, q2, r, h2⟩ := unifyL_total σ l m σ1 (s.trans s1) (fun x hx => ha x (List.mem_cons_of_mem _ hx)) (fun x hx => hb x (List.mem_cons_of_mem _ hx)) (fun σ' x y s hx hy => hT σ' x y s (List.mem_cons_of_mem _ hx) (List.mem_cons_of_mem _ hy))
      refine ⟨max k1 k2, max q1 q2, r, ?_⟩
      rw [unifyL, unify_up (Nat.le_max_left k1 k2) q1 _ _ _ _ _ (Nat.le_max_left q1 q2) h1]
      dsimp only
      rw [if_neg (fun h => h rfl)]
      exact unifyL_mono (fun σ a b r => unify_up (Nat.le_max_right k1 k2) q2 _ σ a b r (Nat.le_max_right q1 q2)) _ _ _ _ h2
    · refine ⟨k1, q1, (e, σ1), ?_⟩
      rw [unifyL, h1]
      dsimp only
      rw [if_pos he]
theorem nodes_sub {t a : Ty} (h0 : t.kind ≠ 0) (h : a ∈ t.args) : nodes (ap σ a) < nodes (ap σ t) := by
  rw [ap_not h0]
  exact nodes_arg (t := .mk t.kind t.name t.var (t.args.map (ap σ))) (List.mem_map.2 ⟨a, h, rfl⟩)
theorem unify_aux (L : Nat) (h1 : ∀ σ a b, Gd σ → a.Wf → b.Wf → VIn σ a → VIn σ b → 4098 - σ.length < L → Tm σ a b) (U : Nat) (h2 : ∀ σ a b, Gd σ → a.Wf → b.Wf → VIn σ a → VIn σ b → 4098 - σ.length ≤ L → unb σ < U → Tm σ a b) :
    ∀ (N : Nat) (σ : List Ty) (a b : Ty), Gd σ → a.Wf → b.Wf → VIn σ a → VIn σ b → 4098 - σ.length ≤ L → unb σ ≤ U → nodes (ap σ a) + nodes (ap σ b) ≤ N → Tm σ a b
  | 0, σ, a, b, _, _, _, _, _, _, _, hn => by have := nodes_eq (ap σ a); omega
  | N + 1, σ, a, b, hg, wa, wb, va, vb, hL, hU, hN => by
    obtain ⟨K1, a', hK1⟩ := walk_total hg a va
    obtain ⟨K2, b', hK2⟩ := walk_total hg b vb
    have w1 := hK1 (max K1 K2) (Nat.le_max_left _ _)
    have w2 := hK2 (max K1 K2) (Nat.le_max_right _ _)
    obtain ⟨ea, va', oa⟩ := walk_ap hg _ a a' va w1
    obtain ⟨eb, vb', ob⟩ := walk_ap hg _ b b' vb w2
    have wa' := walk_wf hg.wf _ a a' wa w1
    have wb' := walk_wf hg.wf _ b b' wb w2
    obtain ⟨K, hKd⟩ : ∃ K, max K1 K2 = K := ⟨_, rfl⟩
    rw [hKd] at w1 w2
    -- the rest, at the types that were walked
    have go : (∃ k q r, (if a'.kind = 0 then bindP k σ a'.var b'
        else if b'.kind = 0 then bindP k σ b'.var a'
        else if a'.kind = 5 ∧ 4 ≤ b'.kind then rowsP k (unifyP k q) σ a' b'
        else if a'.kind ≠ b'.kind ∨ a'.name ≠ b'.name ∨ a'.args.length ≠ b'.args.length then some (10, σ)
        else unifyL (unifyP k q) a'.args b'.args σ) = some r) → Tm σ a b := fun ⟨k, q, r, h⟩ => by
      refine ⟨max K k, q + 1, r, ?_⟩
      rw [unifyP, walk_up w1 (Nat.le_max_left _ _)]
      dsimp only
      rw [walk_up w2 (Nat.le_max_left _ _)]
      dsimp only
      have hkk : k ≤ max K k := Nat.le_max_right _ _
      have ih := fun σ a b r => unify_up hkk q q σ a b r (Nat.le_refl q)
      split
      · rename_i c1
        rw [if_pos c1] at h; exact bind_up h hkk
      · rename_i c1
        rw [if_neg c1] at h
        split
        · rename_i c2
          rw [if_pos c2] at h; exact bind_up h hkk
        · rename_i c2
          rw [if_neg c2] at h
          split
          · rename_i c3
            rw [if_pos c3] at h; exact rows_mono hkk ih h
          · rename_i c3
            rw [if_neg c3] at h
            split
            · rename_i c4
              rw [if_pos c4] at h; exact h
            · rename_i c4
              rw [if_neg c4] at h; exact unifyL_mono ih _ _ _ _ h
    have again : ∀ σ' x y, Step σ σ' → x.Wf → y.Wf → VIn σ' x → VIn σ' y → (σ' = σ → nodes (ap σ x) + nodes (ap σ y) < nodes (ap σ a') + nodes (ap σ b')) → Tm σ' x y := fun σ' x y s wx wy vx vy hn => by
      rcases s.prog with e | e | ⟨e, e2⟩
      · have hn2 := hn e
        subst e
        rw [ea, eb] at hn2
        exact unify_aux L h1 U h2 N σ' x y hg wx wy vx vy hL hU (by omega)
      · exact h1 σ' x y s.gd wx wy vx vy (by have := hg.len; omega)
      · exact h2 σ' x y s.gd wx wy vx vy (by omega) (by omega)
    refine go ?_
    by_cases c1 : a'.kind = 0
    · obtain ⟨k, e, τ, h, _⟩ := bind_res hg (oa c1) wb' vb'
      exact ⟨k, 0, _, by rw [if_pos c1]; exact h⟩
    by_cases c2 : b'.kind = 0
    · obtain ⟨k, e, τ, h, _⟩ := bind_res hg (ob c2) wa' va'
      exact ⟨k, 0, _, by rw [if_neg c1, if_pos c2]; exact h⟩
    by_cases c3 : a'.kind = 5 ∧ 4 ≤ b'.kind
    · obtain ⟨x, y, eaa, hxw, hyw⟩ := row_form wa' c3.1
      have hargs : a'.args = [x, y] := by rw [eaa]; rfl
      have hvx : VIn σ x := va'.arg c1 (by rw [hargs]; simp)
      have hvy : VIn σ y := va'.arg c1 (by rw [hargs]; simp)
      have hnx : nodes (ap σ x) < nodes (ap σ a') := nodes_sub c1 (by rw [hargs]; simp)
      have hny : nodes (ap σ y) < nodes (ap σ a') := nodes_sub c1 (by rw [hargs]; simp)
      obtain ⟨k1, n, t1⟩ := tailP_total hg wa' va'
      obtain ⟨k2, q2, ⟨t, rest, e, σ1⟩, x1⟩ := extract_total (σ := σ) a'.name n hg _ b' (Nat.le_refl _) wb' vb'
      by_cases he : e = 0
      · subst he
        obtain ⟨s1, tw, rw', _, i2⟩ := extract_ok _ _ _ _ _ _ _ _ _ hg wb' vb' x1
        obtain ⟨v1, v2⟩ := extractP_in _ _ _ _ _ _ _ _ _ _ hg.inn vb' x1 rfl
        obtain ⟨k3, q3, ⟨e2, σ2⟩, u1⟩ := again σ1 x t s1 hxw tw (s1.vin hvx) v1 (fun e => by rw [e] at i2; omega)
        by_cases he2 : e2 = 0
        · subst he2
          obtain ⟨s2, _⟩ := unify_ok k3 q3 _ _ _ _ s1.gd hxw tw (s1.vin hvx) v1 u1
          obtain ⟨k4, q4, r, u2⟩ := again σ2 y rest (s1.trans s2) hyw rw' ((s1.trans s2).vin hvy) (s2.vin v2) (fun e => by
            have e1 : σ1 = σ := by
              rcases s1.prog with h | h | ⟨h, h'⟩
              · exact h
              · have := s2.keep.len; rw [e] at this; omega
              · have h3 : σ2.length = σ.length := by rw [e]
                rcases s2.prog with h2 | h2 | ⟨h2, h2'⟩
                · rw [← h2, e]
                · omega
                · rw [e] at h2'; omega
            rw [e1] at i2; omega)
          refine ⟨max (max k1 (max k2 q2)) (max k3 k4), max q3 q4, r, ?_⟩
          rw [if_neg c1, if_neg c2, if_pos c3, rowsP, tailP_up (by omega) t1]
          dsimp only
          rw [extract_up (by omega) a'.name n q2 (max (max k1 (max k2 q2)) (max k3 k4)) σ b' _ (by omega) x1]
          dsimp only
          rw [if_neg (fun h => h rfl), hargs]
          dsimp only
          rw [unify_up (by omega) q3 _ _ _ _ _ (Nat.le_max_left q3 q4) u1]
          dsimp only
          rw [if_neg (fun h => h rfl)]
          exact unify_up (by omega) q4 _ _ _ _ _ (Nat.le_max_right q3 q4) u2
        · refine ⟨max (max k1 (max k2 q2)) k3, q3, (e2, σ2), ?_⟩
          rw [if_neg c1, if_neg c2, if_pos c3, rowsP, tailP_up (by omega) t1]
          dsimp only
          rw [extract_up (by omega) a'.name n q2 (max (max k1 (max k2 q2)) k3) σ b' _ (by omega) x1]
          dsimp only
          rw [if_neg (fun h => h rfl), hargs]
          dsimp only
          rw [unify_up (by omega) q3 q3 _ _ _ _ (Nat.le_refl _) u1]
          dsimp only
          rw [if_pos he2]
      · refine ⟨max k1 (max k2 q2), 0, (e, σ1), ?_⟩
        rw [if_neg c1, if_neg c2, if_pos c3, rowsP, tailP_up (by omega) t1]
        dsimp only
        rw [extract_up (by omega) a'.name n q2 (max k1 (max k2 q2)) σ b' _ (by omega) x1]
        dsimp only
        rw [if_pos he]
    · by_cases c4 : a'.kind ≠ b'.kind ∨ a'.name ≠ b'.name ∨ a'.args.length ≠ b'.args.length
      · exact ⟨0, 0, _, by rw [if_neg c1, if_neg c2, if_neg c3, if_pos c4]⟩
      · obtain ⟨k, q, r, h⟩ := unifyL_total σ a'.args b'.args σ (.refl hg) (fun x hx => ⟨wa'.arg hx, va'.arg c1 hx⟩) (fun x hx => ⟨wb'.arg hx, vb'.arg c2 hx⟩) (fun σ' x y s hx hy => again σ' x y s (wa'.arg hx) (wb'.arg hy) (s.vin (va'.arg c1 hx)) (s.vin (vb'.arg c2 hy)) (fun _ => by
          have := nodes_sub (σ := σ) c1 hx
          have := nodes_sub (σ := σ) c2 hy
          omega))
        exact ⟨k, q, r, by rw [if_neg c1, if_neg c2, if_neg c3, if_neg c4]; exact h⟩
theorem unify_total1 : ∀ (L : Nat) (σ : List Ty) (a b : Ty), Gd σ → a.Wf → b.Wf → VIn σ a → VIn σ b → 4098 - σ.length < L → Tm σ a b
  | 0, _, _, _, _, _, _, _, _, h => by omega
  | L + 1, σ, a, b, hg, wa, wb, va, vb, hL => by
    have h1 := unify_total1 L
    have h2 : ∀ U σ a b, Gd σ → a.Wf → b.Wf → VIn σ a → VIn σ b → 4098 - σ.length ≤ L → unb σ < U → Tm σ a b := by
      intro U
      induction U with
      | zero => intro σ a b _ _ _ _ _ _ h; omega
      | succ U ih => intro σ a b hg wa wb va vb hL hU; exact unify_aux L h1 U ih _ σ a b hg wa wb va vb hL (by omega) (Nat.le_refl _)
    exact h2 (unb σ + 1) σ a b hg wa wb va vb (by omega) (by omega)
/-- The unifier ends. -/
theorem unify_total (hg : Gd σ) {a b : Ty} (wa : a.Wf) (wb : b.Wf) (va : VIn σ a) (vb : VIn σ b) : ∃ k q r, unifyP k q σ a b = some r := unify_total1 _ σ a b hg wa wb va vb (Nat.lt_succ_self _)
end
end Go.Proofs.YthchnabhbpdfgaaDoor
end
