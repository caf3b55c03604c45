/- UnifyInstances, in plain words: Apply ends, and a type unifies with what Apply makes of it. No program in sight. -/
import Derived.Test.YtjofndhbpglfgaaDoorUAcy
namespace Go.Proofs.YtjofndhbpglfgaaDoor
open Go.RowKit Go.Shelf Go.Sort Stab

theorem walk_mono {σ : List Ty} : ∀ (k : Nat) (t r : Ty), walkP σ k t = some r → walkP σ (k + 1) t = some r
  | 0, _, _, h => by cases h
  | k + 1, t, r, h => by
    rw [walkP] at h ⊢
    split
    · rename_i hc
      rw [if_pos hc] at h
      split
      · rename_i hx
        rw [hx] at h; cases h
      · rename_i x hx
        rw [hx] at h
        dsimp only at h
        split
        · rename_i h2
          rw [if_pos h2] at h; exact h
        · rename_i h2
          rw [if_neg h2] at h
          exact walk_mono k x r h
    · rename_i hc
      rw [if_neg hc] at h; exact h
/-- Apply ends at a type, with this result. -/
def Ends (σ : List Ty) (t r : Ty) : Prop := ∃ K, ∀ k, K ≤ k → ∀ q, K ≤ q → applyP σ k q t = some r
theorem ends_one {σ : List Ty} {t r s : Ty} (h : Ends σ t r) (h' : Ends σ t s) : r = s := by
  obtain ⟨K, hK⟩ := h
  obtain ⟨K', hK'⟩ := h'
  have h1 := hK (K + K') (by omega) (K + K') (by omega)
  have h2 := hK' (K + K') (by omega) (K + K') (by omega)
  rw [h1] at h2
  exact Option.some.inj h2
theorem ends_list {σ : List Ty} {f : Ty → Ty} : ∀ l : List Ty, (∀ a ∈ l, Ends σ a (f a)) → ∃ K, ∀ k, K ≤ k → ∀ q, K ≤ q → mapO (applyP σ k q) l = some (l.map f)
  | [], _ => ⟨0, fun _ _ _ _ => rfl⟩
  | a :: r, h => by
    obtain ⟨K1, h1⟩ := h a List.mem_cons_self
    obtain ⟨K2, h2⟩ := ends_list r (fun b hb => h b (List.mem_cons_of_mem _ hb))
    exact ⟨max K1 K2, fun k hk q hq => mapO_cons.2 ⟨_, _, h1 k (by omega) q (by omega), h2 k (by omega) q (by omega), rfl⟩⟩
theorem ends_not {σ : List Ty} {f : Ty → Ty} {t : Ty} (h0 : t.kind ≠ 0) (h : ∀ a ∈ t.args, Ends σ a (f a)) : Ends σ t (.mk t.kind t.name t.var (t.args.map f)) := by
  obtain ⟨K, hK⟩ := ends_list t.args h
  refine ⟨K + 1, fun k hk q hq => ?_⟩
  obtain ⟨q, rfl⟩ : ∃ q', q = q' + 1 := ⟨q - 1, by omega⟩
  obtain ⟨k', rfl⟩ : ∃ q', k = q' + 1 := ⟨k - 1, by omega⟩
  rw [applyP, walk_not σ k' h0]
  dsimp only
  split
  · rename_i hl
    have : t.args = [] := List.eq_nil_of_length_eq_zero hl
    rw [this, List.map_nil, ← this]; cases t; rfl
  · rw [hK _ (by omega) q (by omega)]
theorem ends_to {σ : List Ty} {t x r : Ty} (h0 : t.kind = 0) (hv : 0 ≤ t.var) (hx : σ[t.var.toNat]? = some x) (hs : selfB σ t.var.toNat = false) (h : Ends σ x r) : Ends σ t r := by
  obtain ⟨K, hK⟩ := h
  refine ⟨K + 1, fun k hk q hq => ?_⟩
  obtain ⟨q, rfl⟩ : ∃ q', q = q' + 1 := ⟨q - 1, by omega⟩
  obtain ⟨k, rfl⟩ : ∃ q', k = q' + 1 := ⟨k - 1, by omega⟩
  have hlt : t.var.toNat < σ.length := by
    rcases Nat.lt_or_ge t.var.toNat σ.length with h | h
    · exact h
    · rw [List.getElem?_eq_none h] at hx; cases hx
  have hw : walkP σ (k + 1) t = walkP σ k x := by
    rw [walkP, if_pos ⟨h0, by omega⟩, hx]
    dsimp only
    rw [if_neg (fun h => by
      have : selfB σ t.var.toNat = true := selfB_iff.2 ⟨x, hx, h.1, by omega⟩
      rw [hs] at this; cases this)]
  have h1 := hK k (by omega) (q + 1) (by omega)
  have h2 := hK (k + 1) (by omega) (q + 1) (by omega)
  rw [applyP] at h1
  cases hw2 : walkP σ k x with
  | none => rw [hw2] at h1; cases h1
  | some w =>
    rw [applyP, walk_mono k x w hw2] at h2
    rw [applyP, hw, hw2]
    exact h2
theorem ends_leaf {σ : List Ty} {t : Ty} (hw : t.Wf) (h0 : t.kind = 0) (hs : selfB σ t.var.toNat = true ∨ σ[t.var.toNat]? = none) : Ends σ t t := by
  have hv := hw.varOk h0
  refine ⟨1, fun k hk q hq => ?_⟩
  obtain ⟨q, rfl⟩ : ∃ q', q = q' + 1 := ⟨q - 1, by omega⟩
  obtain ⟨k, rfl⟩ : ∃ q', k = q' + 1 := ⟨k - 1, by omega⟩
  have hwk : walkP σ (k + 1) t = some t := by
    rw [walkP]
    split
    · rename_i hc
      rcases hs with hs | hs
      · obtain ⟨x, hx, h1, h2⟩ := selfB_iff.1 hs
        rw [hx]
        dsimp only
        rw [if_pos ⟨h1, by omega⟩]
      · rw [List.getElem?_eq_none_iff] at hs; omega
    · rfl
  rw [applyP, hwk]
  dsimp only
  rw [if_pos (by rw [hw.leaf (.inl h0)]; rfl)]
theorem apply_wf {σ : List Ty} (hσ : ∀ x ∈ σ, x.Wf) (k : Nat) : ∀ (q : Nat) (t r : Ty), t.Wf → applyP σ k q t = some r → r.Wf
  | 0, _, _, _, h => by cases h
  | q + 1, t, r, hw, h => by
    rw [applyP] at h
    cases hc : walkP σ k t with
    | none => rw [hc] at h; cases h
    | some cur =>
      rw [hc] at h
      dsimp only at h
      have hwc := (walk_fine (N := max (nodes t) (σ.foldr (fun x n => max (nodes x) n) 0)) (fun x hx => ⟨hσ x hx, by
        have : ∀ l : List Ty, x ∈ l → nodes x ≤ l.foldr (fun x n => max (nodes x) n) 0 := by
          intro l
          induction l with
          | nil => intro h; cases h
          | cons y l ih =>
            intro h
            rw [List.foldr_cons]
            rcases List.mem_cons.1 h with rfl | h
            · omega
            · have := ih h; omega
        have := this σ hx; omega⟩) k t cur hw (by omega) hc).1
      split at h
      · rw [← Option.some.inj h]; exact hwc
      · cases hm : mapO (applyP σ k q) cur.args with
        | none => rw [hm] at h; cases h
        | some l =>
          rw [hm] at h
          have e := Option.some.inj h
          rw [← e]
          have hl := mapO_len hm
          have hin : ∀ b ∈ l, b.Wf := fun b hb => by
            obtain ⟨i, hi, hbi⟩ := List.mem_iff_getElem.1 hb
            obtain ⟨y, h1, h2⟩ := mapO_at hm i (by omega)
            rw [List.getElem?_eq_getElem hi] at h2
            rw [← hbi, Option.some.inj h2]
            exact apply_wf hσ k q _ y (hwc.arg (List.getElem_mem _)) h1
          cases hwc with
          | mk k n v l' hk hs hv hn h0 hl' => exact .mk k n v l hk (fun h => by rw [hl]; exact hs h) hv hn h0 hin
theorem ends_total {σ : List Ty} (hw : ∀ x ∈ σ, x.Wf) (t : Ty) (ht : AcyT σ t) (hwt : t.Wf) : ∃ r, Ends σ t r := by
  refine acy_ind (P := fun t => t.Wf → ∃ r, Ends σ t r) (fun t h0 ih hwt => ?_) (fun t h0 hs hwt => ⟨t, ends_leaf hwt h0 hs⟩) (fun t x h0 hs hx ih hwt => ?_) t ht hwt
  · have : ∀ a : Ty, ∃ r, a ∈ t.args → Ends σ a r := fun a => by
      by_cases ha : a ∈ t.args
      · exact (ih a ha (hwt.arg ha)).imp fun r h _ => h
      · exact ⟨a, fun h => absurd h ha⟩
    exact ⟨_, ends_not (f := fun a => Classical.choose (this a)) h0 fun a ha => Classical.choose_spec (this a) ha⟩
  · obtain ⟨r, hr⟩ := ih (hw x (List.mem_of_getElem? hx))
    exact ⟨r, ends_to h0 (hwt.varOk h0) hx hs hr⟩
open Classical in
/-- What Apply makes of a variable. -/
noncomputable def appV (σ : List Ty) (v : Int) : Ty := if h : ∃ r, Ends σ (varT v) r then Classical.choose h else varT (if 0 ≤ v then v else 0)
theorem varT_wf {v : Int} (h : 0 ≤ v) : (varT v).Wf := .mk 0 ⟨#[]⟩ v [] (by decide) (fun _ => rfl) (fun h => absurd rfl h) (fun _ _ => by simp [ByteArray.toList_eq]) (fun _ => h) (fun a ha => by cases ha)
theorem appV_ends {σ : List Ty} {v : Int} {r : Ty} (h : Ends σ (varT v) r) : appV σ v = r := by
  unfold appV
  rw [dif_pos ⟨r, h⟩]
  exact ends_one (Classical.choose_spec (⟨r, h⟩ : ∃ r, Ends σ (varT v) r)) h
theorem ends_sub {σ : List Ty} (t : Ty) (hw : t.Wf) (hv : ∀ v ∈ freeP t, ∃ r, Ends σ (varT v) r) : Ends σ t (subT (appV σ) t) := by
  refine ty_ind (P := fun t => t.Wf → (∀ v ∈ freeP t, ∃ r, Ends σ (varT v) r) → Ends σ t (subT (appV σ) t)) (fun t ih hw hv => ?_) t hw hv
  by_cases h0 : t.kind = 0
  · obtain ⟨r, hr⟩ := hv t.var (by rw [freeP_var h0]; exact List.mem_singleton.2 rfl)
    rw [subT_var h0, appV_ends hr]
    rw [← wf_var hw h0] at hr
    exact hr
  · rw [subT_not h0]
    exact ends_not h0 fun a ha => ih a ha (hw.arg ha) fun v hv' => hv v ((freeP_args h0).2 ⟨a, ha, hv'⟩)
theorem appV_wf {σ : List Ty} (hσ : ∀ x ∈ σ, x.Wf) (v : Int) : (appV σ v).Wf := by
  by_cases h : ∃ r, Ends σ (varT v) r
  · obtain ⟨r, hr⟩ := h
    rw [appV_ends hr]
    by_cases h0 : 0 ≤ v
    · obtain ⟨K, hK⟩ := hr
      exact apply_wf hσ K K _ r (varT_wf h0) (hK K (Nat.le_refl _) K (Nat.le_refl _))
    · -- a variable below zero leads on, or stays
      obtain ⟨K, hK⟩ := hr
      have h1 := hK (K + 1) (by omega) (K + 1) (by omega)
      rw [applyP, walkP] at h1
      split at h1
      · cases h1
      · rename_i cur hc
        split at hc
        · split at hc
          · cases hc
          · rename_i x hx
            split at hc
            · rename_i hxx
              have := (hσ x (List.mem_of_getElem? hx)).varOk hxx.1
              have h2 : x.var = v := hxx.2
              omega
            · have hxw := hσ x (List.mem_of_getElem? hx)
              have h3 := apply_wf hσ (K + 1) (K + 1) x r hxw (by rw [applyP, walk_mono K x cur hc]; exact h1)
              exact h3
        · rename_i hcc
          have hcc2 : ¬ v < (σ.length : Int) := fun h => hcc ⟨rfl, h⟩
          omega
  · unfold appV
    rw [dif_neg h]
    split
    · exact varT_wf (by assumption)
    · exact varT_wf (Int.le_refl _)
theorem free_sub (X : Int → Ty) (w : Int) (t : Ty) : w ∈ freeP (subT X t) ↔ ∃ v ∈ freeP t, w ∈ freeP (X v) := by
  refine ty_ind (P := fun t => w ∈ freeP (subT X t) ↔ ∃ v ∈ freeP t, w ∈ freeP (X v)) (fun t ih => ?_) t
  by_cases h0 : t.kind = 0
  · rw [subT_var h0, freeP_var h0]
    simp
  · rw [subT_not h0]
    have h1 := freeP_args (t := Ty.mk t.kind t.name t.var (t.args.map (subT X))) h0 (v := w)
    rw [h1]
    constructor
    · rintro ⟨b, hb, hw⟩
      obtain ⟨a, ha, rfl⟩ := List.mem_map.1 hb
      obtain ⟨v, hv, hw2⟩ := (ih a ha).1 hw
      exact ⟨v, (freeP_args h0).2 ⟨a, ha, hv⟩, hw2⟩
    · rintro ⟨v, hv, hw⟩
      obtain ⟨a, ha, hva⟩ := (freeP_args h0).1 hv
      exact ⟨subT X a, List.mem_map.2 ⟨a, ha, rfl⟩, (ih a ha).2 ⟨v, hva, hw⟩⟩
/-- Equal but for the order of different labels: kept by replacing variables by such types. -/
theorem norm_congr {X Y : Int → Ty} (hX : ∀ v, (X v).Wf) (hY : ∀ v, (Y v).Wf) (t : Ty) (hw : t.Wf) (hv : ∀ v ∈ freeP t, normP (X v) = normP (Y v)) : normP (subT X t) = normP (subT Y t) := by
  refine ty_ind (P := fun t => t.Wf → (∀ v ∈ freeP t, normP (X v) = normP (Y v)) → normP (subT X t) = normP (subT Y t)) (fun t ih hw hv => ?_) t hw hv
  by_cases h0 : t.kind = 0
  · rw [subT_var h0, subT_var h0]
    exact hv _ (by rw [freeP_var h0]; exact List.mem_singleton.2 rfl)
  · have hva : ∀ a ∈ t.args, ∀ v ∈ freeP a, normP (X v) = normP (Y v) := fun a ha v h => hv v ((freeP_args h0).2 ⟨a, ha, h⟩)
    refine (eqv_iff (subT_wf hX t hw).nok (subT_wf hY t hw).nok).2 ?_
    rw [subT_not h0, subT_not h0]
    by_cases h5 : t.kind = 5
    · obtain ⟨a, r, e⟩ := hw.two h5
      have ham : a ∈ t.args := by rw [e]; simp
      have hrm : r ∈ t.args := by rw [e]; simp
      have ha := ih a ham (hw.arg ham) (hva a ham)
      have hr := (eqv_iff (subT_wf hX r (hw.arg hrm)).nok (subT_wf hY r (hw.arg hrm)).nok).1 (ih r hrm (hw.arg hrm) (hva r hrm))
      rw [e]
      rw [rowP_ext (t := .mk t.kind t.name t.var (List.map (subT X) [a, r])) (a := subT X a) (r := subT X r) h5 rfl, rowP_ext (t := .mk t.kind t.name t.var (List.map (subT Y) [a, r])) (a := subT Y a) (r := subT Y r) h5 rfl]
      refine ⟨fun n => ?_, hr.2⟩
      dsimp only
      rw [fl_cons, fl_cons, ha, hr.1 n]
      rfl
    · rw [rowP_not (t := .mk t.kind t.name t.var (t.args.map (subT X))) h5, rowP_not (t := .mk t.kind t.name t.var (t.args.map (subT Y))) h5]
      refine ⟨fun _ => rfl, ?_⟩
      show Ty.mk t.kind t.name t.var ((t.args.map (subT X)).map normP) = Ty.mk t.kind t.name t.var ((t.args.map (subT Y)).map normP)
      rw [List.map_map, List.map_map]
      congr 1
      exact List.map_congr_left fun a ha => ih a ha (hw.arg ha) (hva a ha)
/-- Apply, where all variables are replaced by types without variables. -/
def getV (σ : List Ty) (v : Int) : Ty := σ.getD v.toNat (varT 0)
theorem Mt.getV {X : Int → Ty} {σ : List Ty} (h : Mt X σ) {v : Nat} (hv : v < 12) (hb : Bd σ v) : Cl (Go.Proofs.YtjofndhbpglfgaaDoor.getV σ (v : Int)) ∧ nodes (Go.Proofs.YtjofndhbpglfgaaDoor.getV σ (v : Int)) ≤ 4096 ∧ normP (Go.Proofs.YtjofndhbpglfgaaDoor.getV σ (v : Int)) = normP (X (v : Int)) ∧ ∀ k, walkP σ (k + 2) (varT (v : Int)) = some (Go.Proofs.YtjofndhbpglfgaaDoor.getV σ (v : Int)) := by
  have e : ∀ c, σ[v]? = some c → Go.Proofs.YtjofndhbpglfgaaDoor.getV σ (v : Int) = c := fun c hc => by
    unfold Go.Proofs.YtjofndhbpglfgaaDoor.getV
    rw [Int.toNat_natCast, List.getD_eq_getElem?_getD, hc]; rfl
  obtain ⟨d, hd, hdc⟩ := hb
  rw [e d hd]
  rcases h.at_ v hv with h1 | ⟨c, h1, h2, h3, h4, h5⟩
  · rw [h1] at hd
    have := Option.some.inj hd
    rw [← this] at hdc
    exact absurd rfl hdc.kind
  · rw [h1] at hd
    obtain rfl := Option.some.inj hd
    refine ⟨h2, h4, h5, fun k => ?_⟩
    rcases h.walk k hv with ⟨e1, _⟩ | ⟨c', e1, _, _, _, _, e2⟩
    · rw [h1] at e1
      have := Option.some.inj e1
      rw [this] at h2
      exact absurd rfl h2.kind
    · rw [h1] at e1
      rw [e2, Option.some.inj e1]
theorem Mt.getV_wf {X : Int → Ty} {σ : List Ty} (h : Mt X σ) (v : Int) : (Go.Proofs.YtjofndhbpglfgaaDoor.getV σ v).Wf := by
  unfold Go.Proofs.YtjofndhbpglfgaaDoor.getV
  rw [List.getD_eq_getElem?_getD]
  by_cases hv : v.toNat < 12
  · rcases h.at_ v.toNat hv with h1 | ⟨c, h1, _, h3, _⟩
    · rw [h1]; exact varT_wf (Int.natCast_nonneg _)
    · rw [h1]; exact h3
  · rw [List.getElem?_eq_none (by rw [h.len]; omega)]
    exact varT_wf (Int.le_refl _)
theorem apply_bound {X : Int → Ty} {σ : List Ty} (h : Mt X σ) (k : Nat) (t : Ty) : t.Wf → In12 t → (∀ v ∈ freeP t, Bd σ v.toNat) → ∀ q, nodes t + 4097 ≤ q → applyP σ (k + 2) q t = some (subT (getV σ) t) := by
  refine ty_ind (P := fun t => t.Wf → In12 t → (∀ v ∈ freeP t, Bd σ v.toNat) → ∀ q, nodes t + 4097 ≤ q → applyP σ (k + 2) q t = some (subT (getV σ) t)) (fun t ih hw hi hb q hq => ?_) t
  obtain ⟨q, rfl⟩ : ∃ q', q = q' + 1 := ⟨q - 1, by omega⟩
  by_cases h0 : t.kind = 0
  · have hv := hi t.var (by rw [freeP_var h0]; exact List.mem_singleton.2 rfl)
    have hbv := hb t.var (by rw [freeP_var h0]; exact List.mem_singleton.2 rfl)
    obtain ⟨v, hv2⟩ : ∃ v : Nat, t.var = (v : Int) := ⟨t.var.toNat, by omega⟩
    rw [hv2] at hv hbv
    obtain ⟨h1, h2, _, h3⟩ := h.getV (v := v) (by omega) hbv
    rw [subT_var h0, wf_var hw h0, hv2, applyP, h3]
    have h4 := apply_closed σ (k + 1) (q + 1) (getV σ (v : Int)) h1 (by omega)
    rw [applyP, walk_closed σ (k + 1) h1] at h4
    exact h4
  · rw [subT_not h0, applyP, walk_not σ (k + 1) h0]
    dsimp only
    split
    · rename_i hl
      have e : t.args = [] := List.eq_nil_of_length_eq_zero hl
      rw [e, List.map_nil, ← e]; cases t; rfl
    · have hm : mapO (applyP σ (k + 2) q) t.args = some (t.args.map (subT (getV σ))) := by
        have : ∀ l : List Ty, (∀ a ∈ l, a ∈ t.args) → mapO (applyP σ (k + 2) q) l = some (l.map (subT (getV σ))) := by
          intro l
          induction l with
          | nil => intro _; rfl
          | cons a l ihl =>
            intro hl
            have ha := hl a List.mem_cons_self
            exact mapO_cons.2 ⟨_, _, ih a ha (hw.arg ha) (hi.arg h0 ha) (fun v hv => hb v ((freeP_args h0).2 ⟨a, ha, hv⟩)) q (by have := nodes_arg ha; omega), ihl fun b hb => hl b (List.mem_cons_of_mem _ hb), rfl⟩
        exact this _ fun _ h => h
      rw [hm]
theorem chk_type {t : Ty} {left depth : Int} (h : (chk t left false depth).1 = 0) : decide (4 ≤ t.kind) = false := by
  cases t with
  | mk k n v l =>
    rw [chk] at h
    split at h
    · exact absurd (show (2 : Int) = 0 from h) (by decide)
    split at h
    · exact absurd (show (9 : Int) = 0 from h) (by decide)
    split at h
    · exact absurd (show (3 : Int) = 0 from h) (by decide)
    split at h
    · exact absurd (show (9 : Int) = 0 from h) (by decide)
    · rename_i h1 h2 h3 h4
      by_cases hk : k = 0
      · show decide (4 ≤ k) = false
        rw [hk]; rfl
      · cases hd : decide (4 ≤ k) with
        | false => exact hd
        | true => exact absurd ⟨hk, by rw [hd]; simp⟩ h4
theorem tyErr_type {n : Nat} {t : Ty} (h : (chk t 4096 false 1).1 = 0) (hv : ∀ v ∈ freeP t, v < (n : Int)) : tyErr n t = 0 := by
  unfold tyErr
  rw [chk_type h, h, if_neg (by simp), if_neg]
  intro ha
  obtain ⟨v, hv1, hv2⟩ := List.any_eq_true.1 ha
  have := of_decide_eq_true hv2
  have := hv v hv1
  omega
theorem fine_wf {σ : List Ty} (h : Fine σ) : ∀ x ∈ σ, x.Wf ∧ nodes x ≤ 4096 := fun x hx => by
  have h1 := h.ok x hx
  refine ⟨?_, (tyErr_ok h1).1⟩
  unfold tyErr at h1
  split at h1
  · rename_i h2; exact absurd h1 h2
  · rename_i h2
    exact chk_wf x _ _ _ (Classical.not_not.1 h2)
theorem mt_id (X : Int → Ty) : Mt X (idS 12) := ⟨idS_len 12, fun _ hi => .inl (idS_get hi)⟩
/-- Apply at a fine substitution ends. -/
theorem apply_fine {ρ : List Ty} (hρ : Fine ρ) {a : Ty} (ha : a.Wf) : Ends ρ a (subT (appV ρ) a) ∧ ∀ v, (appV ρ v).Wf := by
  have hw : ∀ x ∈ ρ, x.Wf := fun x hx => (fine_wf hρ x hx).1
  have hacy : ∀ v : Nat, Acy ρ v := fun v => by
    rcases Nat.lt_or_ge v ρ.length with h | h
    · exact hρ.acy v h
    · refine .node v fun w hw => ?_
      unfold freeAt at hw
      rw [List.getElem?_eq_none h] at hw
      cases hw
  have hnn : ∀ t : Ty, t.Wf → ∀ v ∈ freeP t, 0 ≤ v := by
    refine ty_ind fun t ih hw v hv => ?_
    by_cases h0 : t.kind = 0
    · rw [freeP_var h0, List.mem_singleton] at hv
      rw [hv]; exact hw.varOk h0
    · obtain ⟨b, hb, hvb⟩ := (freeP_args h0).1 hv
      exact ih b hb (hw.arg hb) v hvb
  exact ⟨ends_sub a ha fun v hv => ends_total hw (varT v) (fun w _ => hacy _) (varT_wf (hnn a ha v hv)), appV_wf hw⟩
/-- The law. -/
theorem inst_law {ρ : List Ty} (hρ : Fine ρ) (hl : ρ.length = 12) {a : Ty} (ha : (chk a 4096 false 1).1 = 0) (hx : (chk (subT (appV ρ) a) 4096 false 1).1 = 0) (hf : freeP (subT (appV ρ) a) = []) :
    ∃ K σ' y, unifyS K K (idS 12) a (subT (appV ρ) a) = some (0, σ') ∧ applyP σ' K K a = some y ∧ (∀ t ∈ σ', t.Wf ∧ nodes t ≤ 4096) ∧ σ'.length = 12 ∧ normP y = normP (subT (appV ρ) a) ∧ y.Wf ∧ nodes y ≤ 4096 := by
  have haw := chk_wf a _ _ _ ha
  obtain ⟨hen, hXw⟩ := apply_fine hρ haw
  have hxw := chk_wf _ _ _ _ hx
  have han : nodes a ≤ 4096 := by have := (chk_fine a _ _ _ ha).1; have := (chk_bound a 4096 false 1).2 ha; omega
  have hxn : nodes (subT (appV ρ) a) ≤ 4096 := by have := (chk_fine _ _ _ _ hx).1; have := (chk_bound _ 4096 false 1).2 hx; omega
  have h12 : In12 a := fun v hv => by
    have h0 := ((chk_fine a _ _ _ ha).2 v hv).1
    refine ⟨h0, ?_⟩
    rcases Int.lt_or_le v 12 with h | h
    · exact h
    · exfalso
      have he : Ends ρ (varT v) (varT v) := ends_leaf (varT_wf h0) rfl (.inr (List.getElem?_eq_none (by rw [hl]; show 12 ≤ v.toNat; omega)))
      have h1 : v ∈ freeP (subT (appV ρ) a) := (free_sub _ v a).2 ⟨v, hv, by rw [appV_ends he, freeP_var rfl]; exact List.mem_singleton.2 rfl⟩
      rw [hf] at h1; cases h1
  obtain ⟨σ', h1, h2, _, h4⟩ := match_law hXw 9000 (Nat.le_refl _) (nodes (subT (appV ρ) a)) 9002 (idS 12) a (subT (appV ρ) a) (Nat.le_refl _) (by omega) (mt_id _) haw h12 han hf hxw hxn rfl
  have hwσ : ∀ t ∈ σ', t.Wf ∧ nodes t ≤ 4096 := fun t ht => by
    obtain ⟨i, hi, hti⟩ := List.mem_iff_getElem.1 ht
    rcases h2.at_ i (by rw [← h2.len]; exact hi) with e | ⟨c, e, _, e3, e4, _⟩
    · rw [List.getElem?_eq_getElem hi, hti] at e
      rw [Option.some.inj e]
      exact ⟨varT_wf (Int.natCast_nonneg _), by show (1 : Nat) ≤ 4096; decide⟩
    · rw [List.getElem?_eq_getElem hi, hti] at e
      rw [Option.some.inj e]; exact ⟨e3, e4⟩
  have hn : normP (subT (getV σ') a) = normP (subT (appV ρ) a) := norm_congr h2.getV_wf hXw a haw fun v hv => by
    have hv2 := h12 v hv
    obtain ⟨u, rfl⟩ : ∃ u : Nat, v = (u : Int) := ⟨v.toNat, by omega⟩
    exact (h2.getV (v := u) (by omega) (h4 _ hv)).2.2.1
  have hyw := subT_wf h2.getV_wf a haw
  refine ⟨9002, σ', _, ?_, apply_bound h2 9000 a haw h12 h4 9002 (by omega), hwσ, h2.len, hn, hyw, ?_⟩
  · rw [unifyS, subC_id 12 9001 (by omega)]
    dsimp only
    rw [if_neg (by simp), idS_len, tyErr_type ha (fun v hv => (h12 v hv).2), if_neg (by simp), tyErr_type hx (fun v hv => by rw [hf] at hv; cases hv), if_neg (by simp)]
    exact h1
  · have e1 := (norm_law hyw.nok).2.1
    have e2 := (norm_law hxw.nok).2.1
    rw [hn] at e1
    omega
theorem tyErr_num : tyErr 12 numT = 0 := tyErr_type (by rw [chk_num 4096 1 (by decide) (by decide)]) fun v hv => by
  rw [numT, freeP, if_neg (by decide), frees] at hv; cases hv
theorem unify_first {v : Nat} (hv : v < 12) : ∃ σ', unifyS 400 400 (idS 12) (varT (v : Int)) numT = some (0, σ') ∧ σ'.length = 12 := by
  obtain ⟨σ', h1, h2⟩ := (smp_id 12).ent 398 399 hv (.inr rfl)
  refine ⟨σ', ?_, h2.len⟩
  rw [unifyS, subC_id 12 399 (by omega)]
  dsimp only
  rw [if_neg (by simp), idS_len, tyErr_var (by omega) (by omega), if_neg (by simp), tyErr_num, if_neg (by simp)]
  exact h1
end Go.Proofs.YtjofndhbpglfgaaDoor
