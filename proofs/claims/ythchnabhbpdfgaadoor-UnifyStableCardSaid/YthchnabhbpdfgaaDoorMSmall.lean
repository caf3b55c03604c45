/- Equations between types that have a solution have one with short rows. No program in sight. Equations between types that have a solution have one with short rows: the proof. No program in sight. -/
import Derived.Test.YthchnabhbpdfgaaDoorMCmp
section
namespace Go.Proofs.YthchnabhbpdfgaaDoor
open Go.RowKit Go.Shelf Go.Sort Stab

section
variable {m m' : Int → Nat} {mc mc' S : Nat} {X Y Z : Int → Ty}
/-- How many labels a row shows. -/
def sp (t : Ty) : Nat := (rowP t).1.length
theorem sp_ext (l : ByteArray) (x y : Ty) : sp (extT l x y) = sp y + 1 := by unfold sp; rw [rowP_extT]; rfl
theorem sp_not {t : Ty} (h5 : t.kind ≠ 5) : sp t = 0 := by unfold sp; rw [rowP_not h5]; rfl
theorem row_ind {P : Ty → Prop} (hn : ∀ t, t.Wf → t.kind ≠ 5 → P t) (hr : ∀ l x r, x.Wf → r.Wf → P r → P (extT l x r)) (t : Ty) : t.Wf → P t := by
  refine ty_ind (P := fun t => t.Wf → P t) (fun t ih hw => ?_) t
  by_cases h5 : t.kind = 5
  · obtain ⟨x, y, e, hx, hy⟩ := row_form hw h5
    have h := hr t.name x y hx hy (ih y (by rw [e]; simp [extT, Ty.args]) hy)
    rw [← e] at h
    exact h
  · exact hn t hw h5
theorem rowEnd_not {t : Ty} (h5 : t.kind ≠ 5) : rowEnd t = .mk t.kind t.name t.var (t.args.map normP) := by unfold rowEnd; rw [rowP_not h5]
theorem rowEnd_kind {t : Ty} (h : t.Wf) : (rowEnd t).kind ≠ 5 := row_end h.nok
theorem rowEnd_free (t : Ty) : t.Wf → (rowEnd t).kind = 0 → (rowEnd t).var ∈ freeP t ∧ rowEnd t = varT (rowEnd t).var ∧ 0 ≤ (rowEnd t).var := by
  refine row_ind (P := fun t => (rowEnd t).kind = 0 → (rowEnd t).var ∈ freeP t ∧ rowEnd t = varT (rowEnd t).var ∧ 0 ≤ (rowEnd t).var) (fun t hw h5 h0 => ?_) (fun l x r _ _ ih h0 => ?_) t
  · have hk : t.kind = 0 := by rw [rowEnd_not h5] at h0; exact h0
    rw [rowEnd_var hw hk]
    exact ⟨by rw [freeP_var hk]; exact List.mem_singleton.2 rfl, wf_var hw hk, hw.varOk hk⟩
  · rw [rowEnd_ext] at h0 ⊢
    obtain ⟨h1, h2⟩ := ih h0
    exact ⟨(freeP_args (t := extT l x r) (show (5 : Int) ≠ 0 by decide)).2 ⟨r, by simp [extT, Ty.args], h1⟩, h2⟩
theorem sp_sub (X : Int → Ty) (t : Ty) : t.Wf → sp (subT X t) = sp t + sp (subT X (rowEnd t)) := by
  refine row_ind (P := fun t => sp (subT X t) = sp t + sp (subT X (rowEnd t))) (fun t hw h5 => ?_) (fun l x r _ _ ih => ?_) t
  · rw [sp_not h5]
    by_cases h0 : t.kind = 0
    · rw [rowEnd_var hw h0]; omega
    · have hk : (rowEnd t).kind = t.kind := by rw [rowEnd_not h5]; rfl
      rw [subT_not h0, subT_not (t := rowEnd t) (by rw [hk]; exact h0)]
      rw [sp_not (t := .mk t.kind t.name t.var (t.args.map (subT X))) h5, sp_not (t := .mk (rowEnd t).kind (rowEnd t).name (rowEnd t).var ((rowEnd t).args.map (subT X))) (by show (rowEnd t).kind ≠ 5; rw [hk]; exact h5)]
  · rw [subT_ext, sp_ext, sp_ext, rowEnd_ext, ih]; omega
/-- The end of a row in which variables were replaced. -/
theorem rowEnd_sub (X : Int → Ty) (t : Ty) : t.Wf → ((rowEnd t).kind = 0 → rowEnd (subT X t) = rowEnd (X (rowEnd t).var)) ∧ ((rowEnd t).kind ≠ 0 → (rowEnd (subT X t)).kind = (rowEnd t).kind) := by
  refine row_ind (P := fun t => ((rowEnd t).kind = 0 → rowEnd (subT X t) = rowEnd (X (rowEnd t).var)) ∧ ((rowEnd t).kind ≠ 0 → (rowEnd (subT X t)).kind = (rowEnd t).kind)) (fun t hw h5 => ?_) (fun l x r _ _ ih => ?_) t
  · by_cases h0 : t.kind = 0
    · rw [rowEnd_var hw h0, subT_var h0]
      exact ⟨fun _ => rfl, fun h => absurd h0 h⟩
    · have hk : (rowEnd t).kind = t.kind := by rw [rowEnd_not h5]; rfl
      refine ⟨fun h => absurd (hk ▸ h) h0, fun _ => ?_⟩
      rw [subT_not h0, rowEnd_not (t := .mk t.kind t.name t.var (t.args.map (subT X))) h5, hk]; rfl
  · rw [subT_ext, rowEnd_ext, rowEnd_ext]; exact ih
/-! ### Weights -/
def wt (m : Int → Nat) (mc : Nat) (e : Ty) : Nat := if e.kind = 0 then m e.var else mc
inductive Fit (m : Int → Nat) (mc : Nat) : Ty → Prop
  | mk (t : Ty) (h : sp t ≤ wt m mc (rowEnd t)) (ha : ∀ a ∈ t.args, Fit m mc a) : Fit m mc t
inductive Short (S : Nat) : Ty → Prop
  | mk (t : Ty) (h : sp t ≤ S) (ha : ∀ a ∈ t.args, Short S a) : Short S t
theorem Fit.top {t : Ty} (h : Fit m mc t) : sp t ≤ wt m mc (rowEnd t) := by cases h; assumption
theorem Fit.arg {t a : Ty} (h : Fit m mc t) (ha : a ∈ t.args) : Fit m mc a := by cases h with | mk _ _ h2 => exact h2 a ha
theorem Short.top {t : Ty} (h : Short S t) : sp t ≤ S := by cases h; assumption
theorem Short.arg {t a : Ty} (h : Short S t) (ha : a ∈ t.args) : Short S a := by cases h with | mk _ _ h2 => exact h2 a ha
theorem Fit.row {l : ByteArray} {x r : Ty} (h : Fit m mc (extT l x r)) : Fit m mc x ∧ Fit m mc r := ⟨h.arg (by simp [extT, Ty.args]), h.arg (by simp [extT, Ty.args])⟩
theorem Fit.ext {l : ByteArray} {x r : Ty} (hx : Fit m mc x) (hr : Fit m mc r) (h : sp r + 1 ≤ wt m mc (rowEnd r)) : Fit m mc (extT l x r) := by
  refine .mk _ (by rw [sp_ext, rowEnd_ext]; exact h) fun a ha => ?_
  have ha' : a = x ∨ a = r := by simpa [extT, Ty.args] using ha
  rcases ha' with rfl | rfl
  · exact hx
  · exact hr
theorem fit_var {t : Ty} (hw : t.Wf) (h0 : t.kind = 0) : Fit m mc t := .mk _ (by rw [sp_not (by rw [h0]; decide)]; exact Nat.zero_le _) fun a ha => by rw [hw.leaf (.inl h0)] at ha; cases ha
theorem fit_sub (hmc : mc ≤ S) (t : Ty) : t.Wf → Fit m mc t → (∀ v ∈ freeP t, m v + sp (X v) ≤ S ∧ Short S (X v)) → Short S (subT X t) := by
  refine ty_ind (P := fun t => t.Wf → Fit m mc t → (∀ v ∈ freeP t, m v + sp (X v) ≤ S ∧ Short S (X v)) → Short S (subT X t)) (fun t ih hw hf hv => ?_) t
  by_cases h0 : t.kind = 0
  · rw [subT_var h0]
    exact (hv t.var (by rw [freeP_var h0]; exact List.mem_singleton.2 rfl)).2
  · refine .mk _ ?_ fun b hb => ?_
    · have h1 := hf.top
      rw [sp_sub X t hw]
      by_cases he : (rowEnd t).kind = 0
      · unfold wt at h1
        rw [if_pos he] at h1
        have h2 := (hv _ (rowEnd_free t hw he).1).1
        rw [subT_var he]
        omega
      · unfold wt at h1
        rw [if_neg he] at h1
        rw [subT_not he, sp_not (t := .mk (rowEnd t).kind (rowEnd t).name (rowEnd t).var ((rowEnd t).args.map (subT X))) (rowEnd_kind hw)]
        omega
    · rw [subT_not h0] at hb
      obtain ⟨a, ha, rfl⟩ := List.mem_map.1 hb
      exact ih a ha (hw.arg ha) (hf.arg ha) fun v hva => hv v ((freeP_args h0).2 ⟨a, ha, hva⟩)
/-! ### One variable replaced -/
def E (c : Int) (t : Ty) (v : Int) : Ty := if v = c then t else if 0 ≤ v then varT v else varT 0
theorem E_self (c : Int) (t : Ty) : E c t c = t := if_pos rfl
theorem E_ne {c v : Int} (t : Ty) (h : v ≠ c) (h0 : 0 ≤ v) : E c t v = varT v := by unfold E; rw [if_neg h, if_pos h0]
theorem E_wf {c : Int} {t : Ty} (ht : t.Wf) (v : Int) : (E c t v).Wf := by
  unfold E
  split
  · exact ht
  · split
    · exact varT_wf (by assumption)
    · exact varT_wf (Int.le_refl _)
theorem free_pos (t : Ty) : t.Wf → ∀ v ∈ freeP t, 0 ≤ v := by
  refine ty_ind (P := fun t => t.Wf → ∀ v ∈ freeP t, 0 ≤ v) (fun t ih hw v hv => ?_) t
  by_cases h0 : t.kind = 0
  · rw [freeP_var h0, List.mem_singleton] at hv
    rw [hv]; exact hw.varOk h0
  · obtain ⟨a, ha, hva⟩ := (freeP_args h0).1 hv
    exact ih a ha (hw.arg ha) v hva
theorem sub_id (X : Int → Ty) (t : Ty) : t.Wf → (∀ v ∈ freeP t, X v = varT v) → subT X t = t := by
  refine ty_ind (P := fun t => t.Wf → (∀ v ∈ freeP t, X v = varT v) → subT X t = t) (fun t ih hw hv => ?_) t
  by_cases h0 : t.kind = 0
  · rw [subT_var h0, hv t.var (by rw [freeP_var h0]; exact List.mem_singleton.2 rfl)]
    exact (wf_var hw h0).symm
  · rw [subT_not h0, List.map_congr_left (g := id) (fun a ha => ih a ha (hw.arg ha) fun v hva => hv v ((freeP_args h0).2 ⟨a, ha, hva⟩)), List.map_id]
    cases t; rfl
theorem E_out {c : Int} (t : Ty) {s : Ty} (hw : s.Wf) (hc : c ∉ freeP s) : subT (E c t) s = s := sub_id _ s hw fun v hv => E_ne t (fun e => hc (e ▸ hv)) (free_pos s hw v hv)
theorem E_free {c : Int} {t s : Ty} (hw : s.Wf) {v : Int} (h : v ∈ freeP (subT (E c t) s)) : (v ∈ freeP s ∧ v ≠ c) ∨ v ∈ freeP t := by
  obtain ⟨u, hu, hv⟩ := (free_sub (E c t) v s).1 h
  by_cases e : u = c
  · rw [e, E_self] at hv; exact .inr hv
  · rw [E_ne t e (free_pos s hw u hu), freeP_var rfl, List.mem_singleton] at hv
    have hv : v = u := hv
    rw [hv]; exact .inl ⟨hu, e⟩
theorem E_norm {c : Int} {t s : Ty} (hw : s.Wf) (ht : t.Wf) (hY : ∀ v, (Y v).Wf) (hZ : ∀ v, (Z v).Wf) (hc : normP (subT Z t) = normP (Y c)) (hv : ∀ v, v ≠ c → Z v = Y v) : normP (subT Z (subT (E c t) s)) = normP (subT Y s) := by
  rw [subT_subT]
  refine norm_congr (fun v => subT_wf hZ _ (E_wf ht v)) hY s hw fun v hv' => ?_
  by_cases e : v = c
  · rw [e, E_self]; exact hc
  · rw [E_ne t e (free_pos s hw v hv'), subT_var rfl]
    show normP (Z v) = _
    rw [hv v e]
theorem E_back (Z : Int → Ty) (c : Int) (t s : Ty) : subT (fun v => subT Z (E c t v)) s = subT Z (subT (E c t) s) := (subT_subT Z (E c t) s).symm
theorem fit_E {c : Int} {t : Ty} (hft : Fit m' mc' t) (hA : m c + sp t ≤ wt m' mc' (rowEnd t)) (hB : ∀ d, d ≠ c → m d ≤ m' d) (hC : mc ≤ mc') (s : Ty) : s.Wf → Fit m mc s → Fit m' mc' (subT (E c t) s) := by
  refine ty_ind (P := fun s => s.Wf → Fit m mc s → Fit m' mc' (subT (E c t) s)) (fun s ih hw hf => ?_) s
  by_cases h0 : s.kind = 0
  · rw [subT_var h0]
    by_cases e : s.var = c
    · rw [e, E_self]; exact hft
    · rw [E_ne t e (hw.varOk h0)]; exact fit_var (varT_wf (hw.varOk h0)) rfl
  · refine .mk _ ?_ fun b hb => ?_
    · have h1 := hf.top
      obtain ⟨r1, r2⟩ := rowEnd_sub (E c t) s hw
      rw [sp_sub _ s hw]
      by_cases he : (rowEnd s).kind = 0
      · rw [r1 he, subT_var he]
        unfold wt at h1
        rw [if_pos he] at h1
        by_cases e : (rowEnd s).var = c
        · rw [e] at h1
          rw [e, E_self]; omega
        · have hp := (rowEnd_free s hw he).2.2
          rw [E_ne t e hp, rowEnd_var (varT_wf hp) rfl, sp_not (show (varT (rowEnd s).var).kind ≠ 5 by show (0 : Int) ≠ 5; decide)]
          have := hB _ e
          show _ ≤ (if (0 : Int) = 0 then m' (rowEnd s).var else mc')
          rw [if_pos rfl]; omega
      · unfold wt at h1 ⊢
        rw [if_neg he] at h1
        rw [if_neg (by rw [r2 he]; exact he), subT_not he, sp_not (t := .mk (rowEnd s).kind (rowEnd s).name (rowEnd s).var ((rowEnd s).args.map (subT (E c t)))) (rowEnd_kind hw)]
        omega
    · rw [subT_not h0] at hb
      obtain ⟨a, ha, rfl⟩ := List.mem_map.1 hb
      exact ih a ha (hw.arg ha) (hf.arg ha)
theorem Fit.mono (hC : mc ≤ mc') (t : Ty) : t.Wf → (∀ d ∈ freeP t, m d ≤ m' d) → Fit m mc t → Fit m' mc' t := by
  refine ty_ind (P := fun t => t.Wf → (∀ d ∈ freeP t, m d ≤ m' d) → Fit m mc t → Fit m' mc' t) (fun t ih hw hB hf => ?_) t
  by_cases h0 : t.kind = 0
  · exact fit_var hw h0
  · refine .mk _ ?_ fun a ha => ih a ha (hw.arg ha) (fun d hd => hB d ((freeP_args h0).2 ⟨a, ha, hd⟩)) (hf.arg ha)
    have h1 := hf.top
    unfold wt at h1 ⊢
    split
    · rename_i he
      rw [if_pos he] at h1
      have := hB _ (rowEnd_free t hw he).1
      omega
    · rename_i he
      rw [if_neg he] at h1
      omega
/-! ### Sums of weights -/
def wsum (m : Int → Nat) (V : List Int) : Nat := (V.map m).sum
theorem wsum_le {c : Int} : ∀ V : List Int, c ∈ V → m c ≤ wsum m V
  | [], h => by cases h
  | v :: V, h => by
    unfold wsum
    rw [List.map_cons, List.sum_cons]
    rcases List.mem_cons.1 h with rfl | h
    · omega
    · have := wsum_le V h
      unfold wsum at this; omega
theorem wsum_erase {c : Int} : ∀ V : List Int, c ∈ V → wsum m V = m c + wsum m (V.erase c)
  | [], h => by cases h
  | v :: V, h => by
    by_cases e : v = c
    · subst e
      rw [List.erase_cons_head]; rfl
    · have h2 := wsum_erase V ((List.mem_cons.1 h).resolve_left (fun x => e x.symm))
      rw [List.erase_cons_tail (by simpa using e)]
      unfold wsum at *
      rw [List.map_cons, List.sum_cons, List.map_cons, List.sum_cons, h2]
      omega
def upd (m : Int → Nat) (c : Int) (x : Nat) (v : Int) : Nat := if v = c then x else m v
theorem upd_self (m : Int → Nat) (c : Int) (x : Nat) : upd m c x c = x := if_pos rfl
theorem upd_ne {c v : Int} (x : Nat) (h : v ≠ c) : upd m c x v = m v := if_neg h
theorem wsum_out {c : Int} (x : Nat) : ∀ V : List Int, c ∉ V → wsum (upd m c x) V = wsum m V
  | [], _ => rfl
  | v :: V, h => by
    have h2 := wsum_out x V (fun e => h (List.mem_cons_of_mem _ e))
    unfold wsum at *
    rw [List.map_cons, List.sum_cons, List.map_cons, List.sum_cons, h2, upd_ne x (fun e => h (by rw [e]; exact List.mem_cons_self))]
theorem wsum_upd {c : Int} (x : Nat) (V : List Int) (hn : V.Nodup) (hc : c ∈ V) : wsum (upd m c x) V + m c = wsum m V + x := by
  rw [wsum_erase V hc, wsum_erase (m := m) V hc, wsum_out x _ (fun h => (hn.mem_erase_iff.1 h).1 rfl), upd_self]
  omega
/-! ### Rows as lists -/
theorem fold_form (t : Ty) : t.Wf → ∃ L e, t = foldX L e ∧ e.kind ≠ 5 ∧ e.Wf ∧ (∀ p ∈ L, p.2.Wf) ∧ sp t = L.length ∧ rowEnd t = rowEnd e := by
  refine row_ind (P := fun t => ∃ L e, t = foldX L e ∧ e.kind ≠ 5 ∧ e.Wf ∧ (∀ p ∈ L, p.2.Wf) ∧ sp t = L.length ∧ rowEnd t = rowEnd e) (fun t hw h5 => ⟨[], t, rfl, h5, hw, fun p hp => (by cases hp), sp_not h5, rfl⟩) (fun l x r hx hr ih => ?_) t
  obtain ⟨L, e, h1, h2, h3, h4, h5, h6⟩ := ih
  refine ⟨(l, x) :: L, e, by rw [h1]; rfl, h2, h3, fun p hp => ?_, by rw [sp_ext, h5]; rfl, by rw [rowEnd_ext, h6]⟩
  rcases List.mem_cons.1 hp with rfl | hp
  · exact hx
  · exact h4 p hp
def mapL (f : Ty → Ty) (L : List (ByteArray × Ty)) : List (ByteArray × Ty) := L.map fun p => (p.1, f p.2)
theorem subT_fold (X : Int → Ty) (e : Ty) : ∀ L : List (ByteArray × Ty), subT X (foldX L e) = foldX (mapL (subT X) L) (subT X e)
  | [] => rfl
  | p :: L => by
    show subT X (extT p.1 p.2 (foldX L e)) = extT p.1 (subT X p.2) (foldX (mapL (subT X) L) (subT X e))
    rw [subT_ext, subT_fold X e L]
theorem fold_wf {e : Ty} (he : e.Wf) : ∀ L : List (ByteArray × Ty), (∀ p ∈ L, p.2.Wf) → (foldX L e).Wf
  | [], _ => he
  | p :: L, h => extT_wf (h p List.mem_cons_self) (fold_wf he L fun q hq => h q (List.mem_cons_of_mem _ hq))
theorem mapL_wf {f : Ty → Ty} (hf : ∀ t : Ty, t.Wf → (f t).Wf) {L : List (ByteArray × Ty)} (h : ∀ p ∈ L, p.2.Wf) : ∀ p ∈ mapL f L, p.2.Wf := fun p hp => by
  obtain ⟨q, hq, rfl⟩ := List.mem_map.1 hp
  exact hf _ (h q hq)
theorem cnt_fold (n : ByteArray) (e : Ty) : ∀ L : List (ByteArray × Ty), cnt n (foldX L e) = 0 → ∀ p ∈ L, p.1 ≠ n
  | [], _ => fun p hp => by cases hp
  | q :: L, h => fun p hp => by
    have h' : cnt n (extT q.1 q.2 (foldX L e)) = 0 := h
    rw [cnt_ext] at h'
    rcases List.mem_cons.1 hp with rfl | hp
    · intro e; rw [if_pos e] at h'; omega
    · exact cnt_fold n e L (by omega) p hp
theorem fold_in {l : ByteArray} {u r : Ty} (hu : u.Wf) (hr : r.Wf) : ∀ L : List (ByteArray × Ty), (∀ p ∈ L, p.2.Wf) → (∀ p ∈ L, p.1 ≠ l) → normP (foldX L (extT l u r)) = normP (extT l u (foldX L r))
  | [], _, _ => rfl
  | q :: L, hw, hl => by
    have hw2 : ∀ p ∈ L, p.2.Wf := fun p hp => hw p (List.mem_cons_of_mem _ hp)
    have ih := fold_in hu hr L hw2 fun p hp => hl p (List.mem_cons_of_mem _ hp)
    have hq := hw q List.mem_cons_self
    show normP (extT q.1 q.2 (foldX L (extT l u r))) = normP (extT l u (extT q.1 q.2 (foldX L r)))
    rw [norm_swap hu hq (fold_wf hr L hw2) (fun e => hl q List.mem_cons_self e.symm)]
    exact norm_extT hq hq (fold_wf (extT_wf hu hr) L hw2) (extT_wf hu (fold_wf hr L hw2)) rfl ih
theorem fold_congr {f g : Ty → Ty} {e e' : Ty} (he : e.Wf) (he' : e'.Wf) (h : normP e = normP e') : ∀ L : List (ByteArray × Ty), (∀ p ∈ L, (f p.2).Wf ∧ (g p.2).Wf ∧ normP (f p.2) = normP (g p.2)) → normP (foldX (mapL f L) e) = normP (foldX (mapL g L) e')
  | [], _ => h
  | q :: L, hw => by
    have h2 : ∀ p ∈ L, (f p.2).Wf ∧ (g p.2).Wf ∧ normP (f p.2) = normP (g p.2) := fun p hp => hw p (List.mem_cons_of_mem _ hp)
    obtain ⟨a1, a2, a3⟩ := hw q List.mem_cons_self
    have w1 : ∀ p ∈ mapL f L, p.2.Wf := fun p hp => by
      obtain ⟨r, hr, rfl⟩ := List.mem_map.1 hp
      exact (h2 r hr).1
    have w2 : ∀ p ∈ mapL g L, p.2.Wf := fun p hp => by
      obtain ⟨r, hr, rfl⟩ := List.mem_map.1 hp
      exact (h2 r hr).2.1
    exact norm_extT a1 a2 (fold_wf he _ w1) (fold_wf he' _ w2) a3 (fold_congr he he' h L h2)
theorem fit_fold {e : Ty} (he : Fit m mc e) : ∀ L : List (ByteArray × Ty), (∀ p ∈ L, Fit m mc p.2) → L.length + sp e ≤ wt m mc (rowEnd e) → Fit m mc (foldX L e) ∧ sp (foldX L e) = L.length + sp e ∧ rowEnd (foldX L e) = rowEnd e
  | [], _, _ => ⟨he, by show sp e = 0 + sp e; omega, rfl⟩
  | q :: L, hL, h => by
    rw [List.length_cons] at h
    obtain ⟨i1, i2, i3⟩ := fit_fold he L (fun p hp => hL p (List.mem_cons_of_mem _ hp)) (by omega)
    refine ⟨Fit.ext (hL q List.mem_cons_self) i1 (by show sp (foldX L e) + 1 ≤ wt m mc (rowEnd (foldX L e)); rw [i2, i3]; omega), ?_, (rowEnd_ext _ _ _).trans i3⟩
    show sp (extT q.1 q.2 (foldX L e)) = _
    rw [sp_ext, i2, List.length_cons]; omega
theorem fold_fit {e : Ty} : ∀ L : List (ByteArray × Ty), Fit m mc (foldX L e) → (∀ p ∈ L, Fit m mc p.2) ∧ Fit m mc e
  | [], h => ⟨fun p hp => (by cases hp), h⟩
  | q :: L, h => by
    have h' : Fit m mc (extT q.1 q.2 (foldX L e)) := h
    obtain ⟨h1, h2⟩ := h'.row
    obtain ⟨h3, h4⟩ := fold_fit L h2
    refine ⟨fun p hp => ?_, h4⟩
    rcases List.mem_cons.1 hp with rfl | hp
    · exact h1
    · exact h3 p hp
theorem fold_free {e : Ty} {v : Int} (L : List (ByteArray × Ty)) : v ∈ freeP (foldX L e) ↔ v ∈ freeP e ∨ ∃ x ∈ L, v ∈ freeP x.2 := free_fold e v L
/-- A label taken off what a row shows. -/
theorem find_lab (l : ByteArray) (b : Ty) : b.Wf → (∃ t b', t.Wf ∧ b'.Wf ∧ (∀ Z : Int → Ty, (∀ v, (Z v).Wf) → normP (subT Z b) = normP (extT l (subT Z t) (subT Z b'))) ∧ sp b = sp b' + 1 ∧ rowEnd b' = rowEnd b ∧ (∀ v, v ∈ freeP t ∨ v ∈ freeP b' → v ∈ freeP b) ∧ ∀ (m : Int → Nat) (mc : Nat), Fit m mc b → Fit m mc t ∧ Fit m mc b') ∨ cnt l b = 0 := by
  refine row_ind (P := fun b => (∃ t b', t.Wf ∧ b'.Wf ∧ (∀ Z : Int → Ty, (∀ v, (Z v).Wf) → normP (subT Z b) = normP (extT l (subT Z t) (subT Z b'))) ∧ sp b = sp b' + 1 ∧ rowEnd b' = rowEnd b ∧ (∀ v, v ∈ freeP t ∨ v ∈ freeP b' → v ∈ freeP b) ∧ ∀ (m : Int → Nat) (mc : Nat), Fit m mc b → Fit m mc t ∧ Fit m mc b') ∨ cnt l b = 0) (fun t _ h5 => .inr (cnt_not h5)) (fun n x r hx hr ih => ?_) b
  have hfree : ∀ v, v ∈ freeP (extT n x r) ↔ v ∈ freeP x ∨ v ∈ freeP r := fun v => by
    rw [freeP_args (t := extT n x r) (show (5 : Int) ≠ 0 by decide)]
    simp [extT, Ty.args]
  by_cases hn : n = l
  · subst hn
    exact .inl ⟨x, r, hx, hr, fun Z _ => by rw [subT_ext], sp_ext _ _ _, (rowEnd_ext _ _ _).symm, fun v hv => (hfree v).2 hv, fun _ _ hf => hf.row⟩
  · rcases ih with ⟨t, r', h1, h2, h3, h4, h5, h6, h7⟩ | h
    · refine .inl ⟨t, extT n x r', h1, extT_wf hx h2, fun Z hZ => ?_, by rw [sp_ext, sp_ext, h4], by rw [rowEnd_ext, rowEnd_ext, h5], fun v hv => ?_, fun m mc hf => ?_⟩
      · have wZ := fun t (h : Ty.Wf t) => subT_wf hZ t h
        rw [subT_ext, subT_ext, norm_swap (wZ t h1) (wZ x hx) (wZ r' h2) (fun e => hn e.symm)]
        exact norm_extT (wZ x hx) (wZ x hx) (wZ r hr) (extT_wf (wZ t h1) (wZ r' h2)) rfl (h3 Z hZ)
      · rw [hfree]
        rcases hv with hv | hv
        · exact .inr (h6 v (.inl hv))
        · rcases (freeP_args (t := extT n x r') (show (5 : Int) ≠ 0 by decide)).1 hv with ⟨a, ha, hva⟩
          have ha' : a = x ∨ a = r' := by simpa [extT, Ty.args] using ha
          rcases ha' with rfl | rfl
          · exact .inl hva
          · exact .inr (h6 v (.inr hva))
      · obtain ⟨f1, f2⟩ := hf.row
        obtain ⟨g1, g2⟩ := h7 m mc f2
        have ht := hf.top
        rw [sp_ext, rowEnd_ext, h4] at ht
        exact ⟨g1, Fit.ext f1 g2 (by rw [h5]; omega)⟩
    · exact .inr (by rw [cnt_ext, if_neg hn, h])
end
end Go.Proofs.YthchnabhbpdfgaaDoor
end

section
namespace Go.Proofs.YthchnabhbpdfgaaDoor
open Go.RowKit Go.Shelf Go.Sort Stab

section
variable {m m' : Int → Nat} {mc mc' S : Nat} {X Y Z : Int → Ty} {V : List Int} {G : List (Ty × Ty)}
def Slv (Y : Int → Ty) (G : List (Ty × Ty)) : Prop := ∀ p ∈ G, normP (subT Y p.1) = normP (subT Y p.2)
def WfG (G : List (Ty × Ty)) : Prop := ∀ p ∈ G, p.1.Wf ∧ p.2.Wf
def FitG (m : Int → Nat) (mc : Nat) (G : List (Ty × Ty)) : Prop := ∀ p ∈ G, Fit m mc p.1 ∧ Fit m mc p.2
def InG (V : List Int) (G : List (Ty × Ty)) : Prop := ∀ p ∈ G, ∀ v, v ∈ freeP p.1 ∨ v ∈ freeP p.2 → v ∈ V
def szG (Y : Int → Ty) (G : List (Ty × Ty)) : Nat := (G.map fun p => nodes (subT Y p.1)).sum
def subG (θ : Int → Ty) (G : List (Ty × Ty)) : List (Ty × Ty) := G.map fun p => (subT θ p.1, subT θ p.2)
/-- The end of a row: which variable, or none. -/
def cl (e : Ty) : Option Int := if e.kind = 0 then some e.var else none
/-- What the first equation owes. -/
def Debt (m : Int → Nat) (mc j : Nat) : List (Ty × Ty) → Prop
  | [] => j = 0
  | p :: _ => j ≠ 0 → cl (rowEnd p.1) ≠ cl (rowEnd p.2) ∧ sp p.1 + j ≤ wt m mc (rowEnd p.1) ∧ sp p.2 + j ≤ wt m mc (rowEnd p.2)
theorem debt_zero : Debt m mc 0 G := by
  cases G with
  | nil => rfl
  | cons p G => exact fun h => absurd rfl h
structure Sys (V : List Int) (G : List (Ty × Ty)) (Y : Int → Ty) (m : Int → Nat) (mc : Nat) : Prop where
  nd : V.Nodup
  pos : ∀ v ∈ V, 0 ≤ v
  inn : InG V G
  wf : WfG G
  ywf : ∀ v, (Y v).Wf
  slv : Slv Y G
  fit : FitG m mc G
structure Res (S : Nat) (V : List Int) (G : List (Ty × Ty)) (m : Int → Nat) (X : Int → Ty) : Prop where
  wf : ∀ v, (X v).Wf
  slv : Slv X G
  bd : ∀ v ∈ V, m v + sp (X v) ≤ S
  short : ∀ v, Short S (X v)
def Claim (S n N : Nat) : Prop := ∀ (V : List Int) (G : List (Ty × Ty)) (Y : Int → Ty) (m : Int → Nat) (mc j : Nat), Sys V G Y m mc → V.length ≤ n → szG Y G ≤ N → Debt m mc j G → wsum m V + mc ≤ S + j → ∃ X, Res S V G m X
theorem Sys.tail {p : Ty × Ty} (h : Sys V (p :: G) Y m mc) : Sys V G Y m mc :=
  ⟨h.nd, h.pos, fun q hq => h.inn q (List.mem_cons_of_mem _ hq), fun q hq => h.wf q (List.mem_cons_of_mem _ hq), h.ywf, fun q hq => h.slv q (List.mem_cons_of_mem _ hq), fun q hq => h.fit q (List.mem_cons_of_mem _ hq)⟩
theorem Sys.cons {p : Ty × Ty} (h : Sys V G Y m mc) (hi : ∀ v, v ∈ freeP p.1 ∨ v ∈ freeP p.2 → v ∈ V) (hw : p.1.Wf ∧ p.2.Wf) (hs : normP (subT Y p.1) = normP (subT Y p.2)) (hf : Fit m mc p.1 ∧ Fit m mc p.2) : Sys V (p :: G) Y m mc := by
  refine ⟨h.nd, h.pos, fun q hq => ?_, fun q hq => ?_, h.ywf, fun q hq => ?_, fun q hq => ?_⟩
  · rcases List.mem_cons.1 hq with rfl | hq
    · exact hi
    · exact h.inn q hq
  · rcases List.mem_cons.1 hq with rfl | hq
    · exact hw
    · exact h.wf q hq
  · rcases List.mem_cons.1 hq with rfl | hq
    · exact hs
    · exact h.slv q hq
  · rcases List.mem_cons.1 hq with rfl | hq
    · exact hf
    · exact h.fit q hq
theorem Res.cons {p : Ty × Ty} (h : Res S V G m X) (hs : normP (subT X p.1) = normP (subT X p.2)) : Res S V (p :: G) m X := ⟨h.wf, fun q hq => by
  rcases List.mem_cons.1 hq with rfl | hq
  · exact hs
  · exact h.slv q hq, h.bd, h.short⟩
theorem Res.tail {p : Ty × Ty} (h : Res S V (p :: G) m X) : Res S V G m X := ⟨h.wf, fun q hq => h.slv q (List.mem_cons_of_mem _ hq), h.bd, h.short⟩
theorem szG_cons (p : Ty × Ty) (G : List (Ty × Ty)) : szG Y (p :: G) = nodes (subT Y p.1) + szG Y G := by unfold szG; rw [List.map_cons, List.sum_cons]
theorem szG_subG {θ : Int → Ty} : ∀ G : List (Ty × Ty), (∀ p ∈ G, nodes (subT Z (subT θ p.1)) = nodes (subT Y p.1)) → szG Z (subG θ G) = szG Y G
  | [], _ => rfl
  | p :: G, h => by
    show szG Z ((subT θ p.1, subT θ p.2) :: subG θ G) = _
    rw [szG_cons, szG_cons, szG_subG G fun q hq => h q (List.mem_cons_of_mem _ hq), h p List.mem_cons_self]
/-- A variable replaced in a system. -/
theorem Sys.sub {c : Int} {t : Ty} (h : Sys V G Y m mc) (ht : t.Wf) {V' : List Int} (hV : ∀ v ∈ V, v ≠ c → v ∈ V') (hn : V'.Nodup) (hp : ∀ v ∈ V', 0 ≤ v) (htV' : ∀ v ∈ freeP t, v ∈ V') (hZ : ∀ v, (Z v).Wf) (hc : normP (subT Z t) = normP (Y c)) (hv : ∀ v, v ≠ c → Z v = Y v)
    (hft : Fit m' mc' t) (hA : m c + sp t ≤ wt m' mc' (rowEnd t)) (hB : ∀ d, d ≠ c → m d ≤ m' d) (hC : mc ≤ mc') : Sys V' (subG (E c t) G) Z m' mc' := by
  refine ⟨hn, hp, fun q hq v hv' => ?_, fun q hq => ?_, hZ, fun q hq => ?_, fun q hq => ?_⟩
  · obtain ⟨p, hp', rfl⟩ := List.mem_map.1 hq
    obtain ⟨w1, w2⟩ := h.wf p hp'
    rcases hv' with hv' | hv'
    · rcases E_free w1 hv' with ⟨k1, k2⟩ | k
      · exact hV v (h.inn p hp' v (.inl k1)) k2
      · exact htV' v k
    · rcases E_free w2 hv' with ⟨k1, k2⟩ | k
      · exact hV v (h.inn p hp' v (.inr k1)) k2
      · exact htV' v k
  · obtain ⟨p, hp', rfl⟩ := List.mem_map.1 hq
    exact ⟨subT_wf (E_wf ht) _ (h.wf p hp').1, subT_wf (E_wf ht) _ (h.wf p hp').2⟩
  · obtain ⟨p, hp', rfl⟩ := List.mem_map.1 hq
    obtain ⟨w1, w2⟩ := h.wf p hp'
    show normP (subT Z (subT (E c t) p.1)) = normP (subT Z (subT (E c t) p.2))
    rw [E_norm w1 ht h.ywf hZ hc hv, E_norm w2 ht h.ywf hZ hc hv]
    exact h.slv p hp'
  · obtain ⟨p, hp', rfl⟩ := List.mem_map.1 hq
    obtain ⟨w1, w2⟩ := h.wf p hp'
    exact ⟨fit_E hft hA hB hC _ w1 (h.fit p hp').1, fit_E hft hA hB hC _ w2 (h.fit p hp').2⟩
theorem nodes_E {c : Int} {t s : Ty} (hw : s.Wf) (ht : t.Wf) (hY : ∀ v, (Y v).Wf) (hZ : ∀ v, (Z v).Wf) (hc : normP (subT Z t) = normP (Y c)) (hv : ∀ v, v ≠ c → Z v = Y v) : nodes (subT Z (subT (E c t) s)) = nodes (subT Y s) :=
  nodes_of_norm (subT_wf hZ _ (subT_wf (E_wf ht) s hw)) (subT_wf hY s hw) (E_norm hw ht hY hZ hc hv)
/-- A variable that a type replaces everywhere. -/
theorem elim_step {n j : Nat} (ih : ∀ N, Claim S n N) {c : Int} {t : Ty} (h : Sys V G Y m mc) (hl : V.length ≤ n + 1) (hc : c ∈ V) (ht : t.Wf) (htV : ∀ v ∈ freeP t, v ∈ V) (hct : c ∉ freeP t) (heq : normP (Y c) = normP (subT Y t)) (hf : Fit m mc t)
    (hd : sp t + j ≤ wt m mc (rowEnd t)) (hj : j ≤ m c) (hs : wsum m V + mc ≤ S + j) : ∃ X, Res S V G m X ∧ X c = subT X t := by
  have hc0 := h.pos c hc
  have hsum := wsum_erase (m := m) V hc
  have hnd := h.nd.erase c
  have hVe : ∀ v ∈ V, v ≠ c → v ∈ V.erase c := fun v hv hx => (h.nd.mem_erase_iff).2 ⟨hx, hv⟩
  have htV' : ∀ v ∈ freeP t, v ∈ V.erase c := fun v hv => (h.nd.mem_erase_iff).2 ⟨fun e => hct (by rw [← e]; exact hv), htV v hv⟩
  have hlen : (V.erase c).length ≤ n := by rw [List.length_erase_of_mem hc]; omega
  -- the weights behind
  obtain ⟨m', mc', hB, hC, hA, hs'⟩ : ∃ m' mc', (∀ d, d ≠ c → m d ≤ m' d) ∧ mc ≤ mc' ∧ m c + sp t ≤ wt m' mc' (rowEnd t) ∧ wsum m' (V.erase c) + mc' ≤ S := by
    by_cases he : (rowEnd t).kind = 0
    · obtain ⟨d, hdd⟩ : ∃ d, (rowEnd t).var = d := ⟨_, rfl⟩
      have hdf := (rowEnd_free t ht he).1
      rw [hdd] at hdf
      have hdV := htV' d hdf
      unfold wt at hd
      rw [if_pos he, hdd] at hd
      refine ⟨upd m d (max (m d) (m c + sp t)), mc, fun e _ => ?_, Nat.le_refl _, ?_, ?_⟩
      · by_cases e2 : e = d
        · rw [e2, upd_self]; omega
        · rw [upd_ne _ e2]; exact Nat.le_refl _
      · unfold wt
        rw [if_pos he, hdd, upd_self]; omega
      · have h1 := wsum_upd (m := m) (max (m d) (m c + sp t)) (V.erase c) hnd hdV
        omega
    · unfold wt at hd
      rw [if_neg he] at hd
      refine ⟨m, max mc (m c + sp t), fun _ _ => Nat.le_refl _, by omega, ?_, by omega⟩
      unfold wt
      rw [if_neg he]; omega
  have hf' : Fit m' mc' t := Fit.mono hC t ht (fun d hd => hB d (fun e => hct (by rw [← e]; exact hd))) hf
  have hmS : mc' ≤ S := by omega
  obtain ⟨X, hX⟩ := ih _ (V.erase c) (subG (E c t) G) Y m' mc' 0 (h.sub ht hVe hnd (fun v hv => h.pos v (List.mem_of_mem_erase hv)) htV' h.ywf heq.symm (fun _ _ => rfl) hf' hA hB hC) hlen (Nat.le_refl _) debt_zero (by omega)
  refine ⟨fun v => subT X (E c t v), ⟨fun v => subT_wf hX.wf _ (E_wf ht v), fun p hp => ?_, fun v hv => ?_, fun v => ?_⟩, ?_⟩
  · rw [E_back, E_back]
    exact hX.slv (subT (E c t) p.1, subT (E c t) p.2) (List.mem_map.2 ⟨p, hp, rfl⟩)
  · by_cases e : v = c
    · subst e
      show m v + sp (subT X (E v t v)) ≤ S
      rw [E_self, sp_sub X t ht]
      by_cases he : (rowEnd t).kind = 0
      · have h1 := hX.bd _ (htV' _ (rowEnd_free t ht he).1)
        unfold wt at hA
        rw [if_pos he] at hA
        rw [subT_var he]; omega
      · unfold wt at hA
        rw [if_neg he] at hA
        rw [subT_not he, sp_not (t := .mk (rowEnd t).kind (rowEnd t).name (rowEnd t).var ((rowEnd t).args.map (subT X))) (rowEnd_kind ht)]
        omega
    · show m v + sp (subT X (E c t v)) ≤ S
      rw [E_ne t e (h.pos v hv), subT_var rfl]
      have h1 := hX.bd v (hVe v hv e)
      have h2 := hB v e
      show m v + sp (X v) ≤ S
      omega
  · by_cases e : v = c
    · subst e
      show Short S (subT X (E v t v))
      rw [E_self]
      exact fit_sub hmS t ht hf' fun u hu => ⟨hX.bd u (htV' u hu), hX.short u⟩
    · show Short S (subT X (E c t v))
      unfold E
      rw [if_neg e]
      split
      · rw [subT_var rfl]; exact hX.short _
      · rw [subT_var rfl]; exact hX.short _
  · show subT X (E c t c) = subT (fun v => subT X (E c t v)) t
    rw [E_self, E_back, E_out t ht hct]
/-! ### All of it -/
def nilT : Ty := .mk 4 ⟨#[]⟩ 0 []
theorem nilT_wf : nilT.Wf := .mk 4 ⟨#[]⟩ 0 [] (by decide) (fun _ => rfl) (fun _ => rfl) (fun _ _ => by simp [ByteArray.toList_eq]) (fun h => absurd h (by decide)) (fun a ha => by cases ha)
theorem nilT_short : Short S nilT := .mk _ (by rw [sp_not (show nilT.kind ≠ 5 by show (4 : Int) ≠ 5; decide)]; exact Nat.zero_le _) fun a ha => by cases ha
section
variable {a b : Ty} {j : Nat}
theorem Debt.fst (hD : Debt m mc j ((a, b) :: G)) (fa : Fit m mc a) : sp a + j ≤ wt m mc (rowEnd a) := by
  by_cases hj : j = 0
  · rw [hj]; exact fa.top
  · exact (hD hj).2.1
theorem Debt.snd (hD : Debt m mc j ((a, b) :: G)) (fb : Fit m mc b) : sp b + j ≤ wt m mc (rowEnd b) := by
  by_cases hj : j = 0
  · rw [hj]; exact fb.top
  · exact (hD hj).2.2
theorem Debt.same (hD : Debt m mc j ((a, b) :: G)) (h : cl (rowEnd a) = cl (rowEnd b)) : j = 0 := Classical.byContradiction fun hj => (hD hj).1 h
end
theorem mapL_mapL (f g : Ty → Ty) (L : List (ByteArray × Ty)) : mapL f (mapL g L) = mapL (fun t => f (g t)) L := by
  unfold mapL
  rw [List.map_map]; rfl
theorem claim_step {n N : Nat} (ihn : ∀ n' N', n' < n → Claim S n' N') (ihN : ∀ N', N' < N → Claim S n N') : Claim S n N := by
  intro V G Y m mc j hS hl hN hD hs
  cases G with
  | nil =>
    have hj : j = 0 := hD
    refine ⟨fun _ => nilT, fun _ => nilT_wf, fun p hp => (by cases hp), fun v hv => ?_, fun _ => nilT_short⟩
    have := wsum_le (m := m) V hv
    rw [sp_not (show nilT.kind ≠ 5 by show (4 : Int) ≠ 5; decide)]
    omega
  | cons p G =>
    obtain ⟨a, b⟩ := p
    have hT := hS.tail
    obtain ⟨wa, wb⟩ : a.Wf ∧ b.Wf := hS.wf (a, b) List.mem_cons_self
    obtain ⟨fa, fb⟩ : Fit m mc a ∧ Fit m mc b := hS.fit (a, b) List.mem_cons_self
    have ia : ∀ v ∈ freeP a, v ∈ V := fun v hv => hS.inn (a, b) List.mem_cons_self v (.inl hv)
    have ib : ∀ v ∈ freeP b, v ∈ V := fun v hv => hS.inn (a, b) List.mem_cons_self v (.inr hv)
    have hab : normP (subT Y a) = normP (subT Y b) := hS.slv (a, b) List.mem_cons_self
    have hY := hS.ywf
    have hnn := nodes_of_norm (subT_wf hY a wa) (subT_wf hY b wb) hab
    rw [szG_cons] at hN
    have hN : nodes (subT Y a) + szG Y G ≤ N := hN
    have hn1 := nodes_eq (subT Y a)
    by_cases ha : a.kind = 0
    · have hav : a.var ∈ V := ia _ (by rw [freeP_var ha]; exact List.mem_singleton.2 rfl)
      by_cases hb : b.kind = 0 ∧ b.var = a.var
      · have hj : j = 0 := hD.same (by rw [rowEnd_var wa ha, rowEnd_var wb hb.1]; unfold cl; rw [if_pos ha, if_pos hb.1, hb.2])
        obtain ⟨X, hX⟩ := ihN (szG Y G) (by omega) V G Y m mc 0 hT hl (Nat.le_refl _) debt_zero (by omega)
        exact ⟨X, hX.cons (by show normP (subT X a) = normP (subT X b); rw [subT_var ha, subT_var hb.1, hb.2])⟩
      · have hc : a.var ∉ freeP b := fun hf => by
          by_cases h0 : b.kind = 0
          · rw [freeP_var h0, List.mem_singleton] at hf
            exact hb ⟨h0, hf.symm⟩
          · have := (nodes_free (X := Y) b hf).2 h0
            rw [subT_var ha] at hnn; omega
        obtain ⟨k, rfl⟩ : ∃ k, n = k + 1 := ⟨n - 1, by have := List.length_pos_of_mem hav; omega⟩
        have hd1 := hD.fst fa
        rw [rowEnd_var wa ha] at hd1
        unfold wt at hd1
        rw [if_pos ha] at hd1
        obtain ⟨X, hX, e⟩ := elim_step (fun N => ihn k N (Nat.lt_succ_self k)) hT hl hav wb ib hc (by rw [subT_var ha] at hab; exact hab) fb (hD.snd fb) (by omega) hs
        exact ⟨X, hX.cons (by show normP (subT X a) = normP (subT X b); rw [subT_var ha, e])⟩
    by_cases hb : b.kind = 0
    · have hbv : b.var ∈ V := ib _ (by rw [freeP_var hb]; exact List.mem_singleton.2 rfl)
      have hc : b.var ∉ freeP a := fun hf => by
        have := (nodes_free (X := Y) a hf).2 ha
        rw [subT_var hb] at hnn; omega
      obtain ⟨k, rfl⟩ : ∃ k, n = k + 1 := ⟨n - 1, by have := List.length_pos_of_mem hbv; omega⟩
      have hd1 := hD.snd fb
      rw [rowEnd_var wb hb] at hd1
      unfold wt at hd1
      rw [if_pos hb] at hd1
      obtain ⟨X, hX, e⟩ := elim_step (fun N => ihn k N (Nat.lt_succ_self k)) hT hl hbv wa ia hc (by rw [subT_var hb] at hab; exact hab.symm) fa (hD.fst fa) (by omega) hs
      exact ⟨X, hX.cons (by show normP (subT X a) = normP (subT X b); rw [subT_var hb, e])⟩
    have hk : a.kind = b.kind := by
      have e1 := norm_kind (subT_wf hY a wa)
      have e2 := norm_kind (subT_wf hY b wb)
      rw [hab, e2, subT_not ha, subT_not hb] at e1
      exact e1.symm
    by_cases h5 : a.kind = 5
    · obtain ⟨x, y, ea, hx, hy⟩ := row_form wa h5
      obtain ⟨nm, hnm⟩ : ∃ nm, a.name = nm := ⟨_, rfl⟩
      rw [hnm] at ea
      subst ea
      clear hnm h5 hk ha hb hn1
      obtain ⟨fx, fy⟩ := fa.row
      have hfree : ∀ v, v ∈ freeP (extT nm x y) ↔ v ∈ freeP x ∨ v ∈ freeP y := fun v => by
        rw [freeP_args (t := extT nm x y) (show (5 : Int) ≠ 0 by decide)]
        simp [extT, Ty.args]
      have ix : ∀ v ∈ freeP x, v ∈ V := fun v hv => ia v ((hfree v).2 (.inl hv))
      have iy : ∀ v ∈ freeP y, v ∈ V := fun v hv => ia v ((hfree v).2 (.inr hv))
      have wYx := subT_wf hY x hx
      have wYy := subT_wf hY y hy
      rw [subT_ext, nodes_extT] at hN
      rcases find_lab nm b wb with ⟨t, b', wt', wb', hl1, hl2, hl3, hl4, hl5⟩ | hcnt
      · -- the label is there
        rw [subT_ext, hl1 Y hY] at hab
        obtain ⟨e1, e2⟩ := norm_ext_inj wYx (subT_wf hY t wt') wYy (subT_wf hY b' wb') hab
        obtain ⟨ft, fb'⟩ := hl5 m mc fb
        have hS1 := (hT.cons (p := (x, t)) (fun v hv => hv.elim (ix v) fun h => ib v (hl4 v (.inl h))) ⟨hx, wt'⟩ e1 ⟨fx, ft⟩).cons (p := (y, b')) (fun v hv => hv.elim (iy v) fun h => ib v (hl4 v (.inr h))) ⟨hy, wb'⟩ e2 ⟨fy, fb'⟩
        have hD1 : Debt m mc j ((y, b') :: (x, t) :: G) := fun hj => by
          obtain ⟨d1, d2, d3⟩ := hD hj
          have d1 : cl (rowEnd (extT nm x y)) ≠ cl (rowEnd b) := d1
          have d2 : sp (extT nm x y) + j ≤ wt m mc (rowEnd (extT nm x y)) := d2
          have d3 : sp b + j ≤ wt m mc (rowEnd b) := d3
          rw [rowEnd_ext] at d1 d2
          rw [sp_ext] at d2
          show cl (rowEnd y) ≠ cl (rowEnd b') ∧ sp y + j ≤ wt m mc (rowEnd y) ∧ sp b' + j ≤ wt m mc (rowEnd b')
          rw [hl3]
          exact ⟨d1, by omega, by omega⟩
        obtain ⟨X, hX⟩ := ihN (szG Y ((y, b') :: (x, t) :: G)) (by rw [szG_cons, szG_cons]; show nodes (subT Y y) + (nodes (subT Y x) + szG Y G) < N; omega) V _ Y m mc j hS1 hl (Nat.le_refl _) hD1 hs
        have s1 : normP (subT X y) = normP (subT X b') := hX.slv (y, b') List.mem_cons_self
        have s2 : normP (subT X x) = normP (subT X t) := hX.slv (x, t) (List.mem_cons_of_mem _ List.mem_cons_self)
        refine ⟨X, hX.tail.tail.cons ?_⟩
        show normP (subT X (extT nm x y)) = normP (subT X b)
        rw [subT_ext, hl1 X hX.wf]
        exact norm_extT (subT_wf hX.wf x hx) (subT_wf hX.wf t wt') (subT_wf hX.wf y hy) (subT_wf hX.wf b' wb') s2 s1
      · -- the label is not there: the variable at the end gets it
        obtain ⟨L, e, hbe, he5, hew, hLw, hsp, hre⟩ := fold_form b wb
        have hcab := cnt_norm (n := nm) (subT_wf hY _ wa) (subT_wf hY b wb) hab
        rw [subT_ext, cnt_ext, if_pos rfl, cnt_sub (X := Y) nm b wb, hcnt, hre] at hcab
        have he0 : e.kind = 0 := Classical.byContradiction fun h0 => by
          have hke : (rowEnd e).kind = e.kind := by rw [rowEnd_not he5]; rfl
          rw [subT_not (t := rowEnd e) (by rw [hke]; exact h0), cnt_not (t := .mk (rowEnd e).kind (rowEnd e).name (rowEnd e).var ((rowEnd e).args.map (subT Y))) (by show (rowEnd e).kind ≠ 5; rw [hke]; exact he5)] at hcab
          omega
        obtain ⟨c, rfl⟩ : ∃ c, e = varT c := ⟨e.var, wf_var hew he0⟩
        have hc0 : 0 ≤ c := hew.varOk rfl
        rw [rowEnd_var hew rfl] at hre hcab
        rw [subT_var (t := varT c) rfl] at hcab
        have hcab : cnt nm (subT Y y) + 1 = 0 + cnt nm (Y c) := hcab
        have hcb : c ∈ freeP b := by
          have := (rowEnd_free b wb (by rw [hre]; rfl)).1
          rw [hre] at this; exact this
        have hcV := ib c hcb
        obtain ⟨u, ρ, hu, hρ, hp⟩ := pick nm (Y c) (hY c) (by omega)
        have hyc : (rowEnd y).kind = 0 → (rowEnd y).var ≠ c := fun h0 h1 => by
          have := cnt_sub (X := Y) nm y hy
          rw [subT_var h0, h1] at this
          omega
        have hlab := cnt_fold nm (varT c) L (by rw [← hbe]; exact hcnt)
        have wLY : ∀ p ∈ mapL (subT Y) L, p.2.Wf := mapL_wf (fun t h => subT_wf hY t h) hLw
        have hlY : ∀ p ∈ mapL (subT Y) L, p.1 ≠ nm := fun p hp => by
          obtain ⟨q, hq, rfl⟩ := List.mem_map.1 hp
          exact hlab q hq
        have hb1 : normP (subT Y b) = normP (extT nm u (foldX (mapL (subT Y) L) ρ)) := by
          rw [hbe, subT_fold, subT_var rfl, ← fold_in hu hρ _ wLY hlY]
          exact fold_congr (hY c) (extT_wf hu hρ) hp L fun p hp => ⟨subT_wf hY _ (hLw p hp), subT_wf hY _ (hLw p hp), rfl⟩
        have hab2 := hab
        rw [subT_ext, hb1] at hab2
        obtain ⟨e1, e2⟩ := norm_ext_inj wYx hu wYy (fold_wf hρ _ wLY) hab2
        have hcx : c ∉ freeP x := fun hf => by
          have h1 := (nodes_free (X := Y) x hf).1
          have h2 := nodes_of_norm wYx hu e1
          have h3 := nodes_of_norm (hY c) (extT_wf hu hρ) hp
          rw [nodes_extT] at h3
          omega
        have wT : (extT nm x (varT c)).Wf := extT_wf hx hew
        obtain ⟨Z, zc, zn⟩ : ∃ Z : Int → Ty, Z c = ρ ∧ ∀ v, v ≠ c → Z v = Y v := ⟨fun v => if v = c then ρ else Y v, if_pos rfl, fun v h => if_neg h⟩
        have hZ : ∀ v, (Z v).Wf := fun v => by
          by_cases h : v = c
          · rw [h, zc]; exact hρ
          · rw [zn v h]; exact hY v
        have hZx : subT Z x = subT Y x := subT_same x fun v hv => zn v (fun h => hcx (by rw [← h]; exact hv))
        have hZT : normP (subT Z (extT nm x (varT c))) = normP (Y c) := by
          rw [subT_ext, subT_var (t := varT c) rfl, hZx]
          show normP (extT nm (subT Y x) (Z c)) = _
          rw [zc, hp]
          exact norm_extT wYx hu hρ hρ e1 rfl
        have hB : ∀ d, d ≠ c → m d ≤ upd m c (m c + 1) d := fun d hd => by rw [upd_ne _ hd]; exact Nat.le_refl _
        have hBx : ∀ d, m d ≤ upd m c (m c + 1) d := fun d => by
          by_cases h : d = c
          · rw [h, upd_self]; omega
          · exact hB d h
        have hwc : wt (upd m c (m c + 1)) mc (rowEnd (varT c)) = m c + 1 := by
          rw [rowEnd_var hew rfl]
          exact (if_pos rfl).trans (upd_self _ _ _)
        have hsv : sp (varT c) = 0 := sp_not (show (varT c).kind ≠ 5 by show (0 : Int) ≠ 5; decide)
        have hfT : Fit (upd m c (m c + 1)) mc (extT nm x (varT c)) := Fit.ext (Fit.mono (Nat.le_refl _) x hx (fun d _ => hBx d) fx) (fit_var hew rfl) (by rw [hwc, hsv]; omega)
        have hA : m c + sp (extT nm x (varT c)) ≤ wt (upd m c (m c + 1)) mc (rowEnd (extT nm x (varT c))) := by rw [sp_ext, rowEnd_ext, hwc, hsv]; omega
        have hTV : ∀ v ∈ freeP (extT nm x (varT c)), v ∈ V := fun v hv => by
          rcases (freeP_args (t := extT nm x (varT c)) (show (5 : Int) ≠ 0 by decide)).1 hv with ⟨q, hq, hvq⟩
          have hq' : q = x ∨ q = varT c := by simpa [extT, Ty.args] using hq
          rcases hq' with rfl | rfl
          · exact ix v hvq
          · rw [freeP_var rfl, List.mem_singleton] at hvq
            have hvq : v = c := hvq
            rw [hvq]; exact hcV
        have hSG := hT.sub (c := c) (t := extT nm x (varT c)) wT (V' := V) (fun v hv _ => hv) hS.nd hS.pos hTV hZ hZT zn hfT hA hB (Nat.le_refl mc)
        obtain ⟨fL, fe⟩ := fold_fit L (by rw [← hbe]; exact fb)
        have hLm : L.length ≤ m c := by
          have h1 := fb.top
          rw [hsp, hre] at h1
          have h2 : wt m mc (varT c) = m c := if_pos rfl
          omega
        have wθ : ∀ t : Ty, t.Wf → (subT (E c (extT nm x (varT c))) t).Wf := fun t h => subT_wf (E_wf wT) t h
        have fθ : ∀ t : Ty, t.Wf → Fit m mc t → Fit (upd m c (m c + 1)) mc (subT (E c (extT nm x (varT c))) t) := fun t h hf => fit_E hfT hA hB (Nat.le_refl mc) t h hf
        have nθ : ∀ t : Ty, t.Wf → normP (subT Z (subT (E c (extT nm x (varT c))) t)) = normP (subT Y t) := fun t h => E_norm h wT hY hZ hZT zn
        have vθ : ∀ t : Ty, t.Wf → (∀ v ∈ freeP t, v ∈ V) → ∀ v ∈ freeP (subT (E c (extT nm x (varT c))) t), v ∈ V := fun t h hv v hvt => by
          rcases E_free h hvt with ⟨k1, _⟩ | k
          · exact hv v k1
          · exact hTV v k
        have wL2 := mapL_wf wθ hLw
        obtain ⟨b0, hb0⟩ : ∃ b0, foldX (mapL (subT (E c (extT nm x (varT c)))) L) (varT c) = b0 := ⟨_, rfl⟩
        have wb0 : b0.Wf := by rw [← hb0]; exact fold_wf hew _ wL2
        have hlen2 : (mapL (subT (E c (extT nm x (varT c)))) L).length = L.length := by unfold mapL; rw [List.length_map]
        have hf0 := fit_fold (e := varT c) (m := upd m c (m c + 1)) (mc := mc) (fit_var hew rfl) (mapL (subT (E c (extT nm x (varT c)))) L) (fun p hp => by
          obtain ⟨q, hq, rfl⟩ := List.mem_map.1 hp
          exact fθ q.2 (hLw q hq) (fL q hq)) (by rw [hwc, hsv, hlen2]; omega)
        rw [hb0, hlen2, hsv] at hf0
        obtain ⟨fb0, sb0, rb0⟩ := hf0
        have hVb0 : ∀ v ∈ freeP b0, v ∈ V := fun v hv => by
          rw [← hb0, fold_free] at hv
          rcases hv with hv | ⟨p, hp, hv⟩
          · rw [freeP_var rfl, List.mem_singleton] at hv
            have hv : v = c := hv
            rw [hv]; exact hcV
          · obtain ⟨q, hq, rfl⟩ := List.mem_map.1 hp
            exact vθ q.2 (hLw q hq) (fun w hw => ib w (by rw [hbe, fold_free]; exact .inr ⟨q, hq, hw⟩)) v hv
        have hs0 : normP (subT Z (subT (E c (extT nm x (varT c))) y)) = normP (subT Z b0) := by
          rw [nθ y hy, e2, ← hb0, subT_fold, mapL_mapL, subT_var rfl]
          refine (fold_congr (hZ c) hρ (by rw [zc]) L fun p hp => ?_).symm
          exact ⟨subT_wf hZ _ (wθ _ (hLw p hp)), subT_wf hY _ (hLw p hp), nθ _ (hLw p hp)⟩
        have hS1 := hSG.cons (p := (subT (E c (extT nm x (varT c))) y, b0)) (fun v hv => hv.elim (vθ y hy iy v) (hVb0 v)) ⟨wθ y hy, wb0⟩ hs0 ⟨fθ y hy fy, fb0⟩
        have hry : sp (subT (E c (extT nm x (varT c))) y) = sp y ∧ cl (rowEnd (subT (E c (extT nm x (varT c))) y)) ≠ some c ∧ wt (upd m c (m c + 1)) mc (rowEnd (subT (E c (extT nm x (varT c))) y)) = wt m mc (rowEnd y) := by
          obtain ⟨r1, r2⟩ := rowEnd_sub (E c (extT nm x (varT c))) y hy
          rw [sp_sub _ y hy]
          by_cases h0 : (rowEnd y).kind = 0
          · have hp0 := (rowEnd_free y hy h0).2.2
            have hvc := hyc h0
            rw [r1 h0, subT_var h0, E_ne _ hvc hp0, rowEnd_var (varT_wf hp0) rfl, sp_not (show (varT (rowEnd y).var).kind ≠ 5 by show (0 : Int) ≠ 5; decide)]
            refine ⟨rfl, fun h => ?_, ?_⟩
            · have h : some (rowEnd y).var = some c := h
              exact hvc (Option.some.inj h)
            · unfold wt
              rw [if_pos h0]
              exact (if_pos rfl).trans (upd_ne _ hvc)
          · have hk2 := r2 h0
            rw [subT_not h0, sp_not (t := .mk (rowEnd y).kind (rowEnd y).name (rowEnd y).var ((rowEnd y).args.map (subT (E c (extT nm x (varT c)))))) (rowEnd_kind hy)]
            refine ⟨rfl, fun h => ?_, ?_⟩
            · unfold cl at h
              rw [if_neg (by rw [hk2]; exact h0)] at h
              cases h
            · unfold wt
              rw [if_neg h0, if_neg (by rw [hk2]; exact h0)]
        have hda := hD.fst fa
        rw [sp_ext, rowEnd_ext] at hda
        have hdb := hD.snd fb
        rw [hsp, hre] at hdb
        have hdb : L.length + j ≤ m c := hdb
        have hD1 : Debt (upd m c (m c + 1)) mc (j + 1) ((subT (E c (extT nm x (varT c))) y, b0) :: subG (E c (extT nm x (varT c))) G) := fun _ => by
          show cl (rowEnd (subT (E c (extT nm x (varT c))) y)) ≠ cl (rowEnd b0) ∧ sp (subT (E c (extT nm x (varT c))) y) + (j + 1) ≤ wt (upd m c (m c + 1)) mc (rowEnd (subT (E c (extT nm x (varT c))) y)) ∧ sp b0 + (j + 1) ≤ wt (upd m c (m c + 1)) mc (rowEnd b0)
          rw [hry.1, hry.2.2, sb0, rb0, hwc]
          refine ⟨?_, by omega, by omega⟩
          rw [rowEnd_var hew rfl]
          exact hry.2.1
        have hsum := wsum_upd (m := m) (m c + 1) V hS.nd hcV
        have hcs := wsum_le (m := upd m c (m c + 1)) V hcV
        rw [upd_self] at hcs
        have hnY : nodes (subT Z (subT (E c (extT nm x (varT c))) y)) = nodes (subT Y y) := nodes_of_norm (subT_wf hZ _ (wθ y hy)) wYy (nθ y hy)
        obtain ⟨X, hX⟩ := ihN (szG Z ((subT (E c (extT nm x (varT c))) y, b0) :: subG (E c (extT nm x (varT c))) G)) (by
          rw [szG_cons, szG_subG (Y := Y) G (fun p hp => nodes_of_norm (subT_wf hZ _ (wθ _ (hT.wf p hp).1)) (subT_wf hY _ (hT.wf p hp).1) (nθ _ (hT.wf p hp).1))]
          show nodes (subT Z (subT (E c (extT nm x (varT c))) y)) + szG Y G < N
          omega) V _ Z (upd m c (m c + 1)) mc (j + 1) hS1 hl (Nat.le_refl _) hD1 (by omega)
        have s1 : normP (subT X (subT (E c (extT nm x (varT c))) y)) = normP (subT X b0) := hX.slv _ List.mem_cons_self
        have hXw := hX.wf
        refine ⟨fun v => subT X (E c (extT nm x (varT c)) v), fun v => subT_wf hXw _ (E_wf wT v), fun p hp => ?_, fun v hv => ?_, fun v => ?_⟩
        · rw [E_back, E_back]
          rcases List.mem_cons.1 hp with rfl | hp
          · show normP (subT X (subT (E c (extT nm x (varT c))) (extT nm x y))) = normP (subT X (subT (E c (extT nm x (varT c))) b))
            have hbθ : subT (E c (extT nm x (varT c))) b = foldX (mapL (subT (E c (extT nm x (varT c)))) L) (extT nm x (varT c)) := by
              rw [hbe, subT_fold, subT_var rfl]
              show foldX _ (E c (extT nm x (varT c)) c) = _
              rw [E_self]
            have hlθ : ∀ p ∈ mapL (subT X) (mapL (subT (E c (extT nm x (varT c)))) L), p.1 ≠ nm := fun p hp => by
              obtain ⟨q, hq, rfl⟩ := List.mem_map.1 hp
              obtain ⟨r, hr, rfl⟩ := List.mem_map.1 hq
              exact hlab r hr
            have wLX := mapL_wf (f := subT X) (fun t h => subT_wf hXw t h) wL2
            rw [hbθ, subT_ext, subT_ext, E_out _ hx hcx, subT_fold, subT_ext, fold_in (subT_wf hXw x hx) (subT_wf hXw _ hew) _ wLX hlθ, ← subT_fold, hb0]
            exact norm_extT (subT_wf hXw x hx) (subT_wf hXw x hx) (subT_wf hXw _ (wθ y hy)) (subT_wf hXw b0 wb0) rfl s1
          · exact hX.slv (subT (E c (extT nm x (varT c))) p.1, subT (E c (extT nm x (varT c))) p.2) (List.mem_cons_of_mem _ (List.mem_map.2 ⟨p, hp, rfl⟩))
        · show m v + sp (subT X (E c (extT nm x (varT c)) v)) ≤ S
          have h1 := hX.bd v hv
          by_cases h : v = c
          · rw [h] at h1 ⊢
            rw [E_self, subT_ext, sp_ext, subT_var (t := varT c) rfl]
            rw [upd_self] at h1
            show m c + (sp (X c) + 1) ≤ S
            omega
          · rw [upd_ne _ h] at h1
            rw [E_ne _ h (hS.pos v hv), subT_var rfl]
            exact h1
        · show Short S (subT X (E c (extT nm x (varT c)) v))
          by_cases h : v = c
          · rw [h, E_self]
            exact fit_sub (m := upd m c (m c + 1)) (mc := mc) (by omega) _ wT hfT fun w hw => ⟨hX.bd w (hTV w hw), hX.short w⟩
          · unfold E
            rw [if_neg h]
            split
            · rw [subT_var rfl]; exact hX.short _
            · rw [subT_var rfl]; exact hX.short _
    · have h5' : b.kind ≠ 5 := by rw [← hk]; exact h5
      have hj : j = 0 := hD.same (by
        have k1 : (rowEnd a).kind = a.kind := by rw [rowEnd_not h5]; rfl
        have k2 : (rowEnd b).kind = b.kind := by rw [rowEnd_not h5']; rfl
        unfold cl
        rw [if_neg (by rw [k1]; exact ha), if_neg (by rw [k2]; exact hb)])
      have hab2 := hab
      rw [subT_not ha, subT_not hb, normP_not (t := .mk a.kind a.name a.var (a.args.map (subT Y))) h5, normP_not (t := .mk b.kind b.name b.var (b.args.map (subT Y))) h5'] at hab2
      have hab3 : Ty.mk a.kind a.name a.var ((a.args.map (subT Y)).map normP) = Ty.mk b.kind b.name b.var ((b.args.map (subT Y)).map normP) := hab2
      simp only [Ty.mk.injEq, List.map_map] at hab3
      obtain ⟨_, n2, n3, n4⟩ := hab3
      -- the arguments in pairs
      have key : ∀ (l r : List Ty) (G : List (Ty × Ty)), l.map (normP ∘ subT Y) = r.map (normP ∘ subT Y) → (∀ t ∈ l, t.Wf ∧ Fit m mc t ∧ ∀ v ∈ freeP t, v ∈ V) → (∀ t ∈ r, t.Wf ∧ Fit m mc t ∧ ∀ v ∈ freeP t, v ∈ V) → Sys V G Y m mc →
          ∃ G', Sys V G' Y m mc ∧ szG Y G' = nodess (l.map (subT Y)) + szG Y G ∧ ∀ X, Res S V G' m X → Res S V G m X ∧ l.map (normP ∘ subT X) = r.map (normP ∘ subT X) := by
        intro l
        induction l with
        | nil =>
          intro r G h1 _ _ hG
          cases r with
          | nil => exact ⟨G, hG, by show szG Y G = 0 + szG Y G; omega, fun X hX => ⟨hX, rfl⟩⟩
          | cons q r => cases h1
        | cons q l ihl =>
          intro r G h1 h2 h3 hG
          cases r with
          | nil => cases h1
          | cons q' r =>
            simp only [List.map_cons, List.cons.injEq] at h1
            obtain ⟨q1, q2, q3⟩ := h2 q List.mem_cons_self
            obtain ⟨p1, p2, p3⟩ := h3 q' List.mem_cons_self
            obtain ⟨G', g1, g2, g3⟩ := ihl r ((q, q') :: G) h1.2 (fun t ht => h2 t (List.mem_cons_of_mem _ ht)) (fun t ht => h3 t (List.mem_cons_of_mem _ ht)) (hG.cons (p := (q, q')) (fun v hv => hv.elim (q3 v) (p3 v)) ⟨q1, p1⟩ h1.1 ⟨q2, p2⟩)
            refine ⟨G', g1, ?_, fun X hX => ?_⟩
            · rw [g2, szG_cons, List.map_cons, nodess]
              show _ + (nodes (subT Y q) + szG Y G) = _
              omega
            · obtain ⟨r1, r2⟩ := g3 X hX
              refine ⟨r1.tail, ?_⟩
              rw [List.map_cons, List.map_cons, r2]
              congr 1
              exact r1.slv (q, q') List.mem_cons_self
      obtain ⟨G', g1, g2, g3⟩ := key a.args b.args G n4 (fun t ht => ⟨wa.arg ht, fa.arg ht, fun v hv => ia v ((freeP_args ha).2 ⟨t, ht, hv⟩)⟩) (fun t ht => ⟨wb.arg ht, fb.arg ht, fun v hv => ib v ((freeP_args hb).2 ⟨t, ht, hv⟩)⟩) hT
      have hsz : nodes (subT Y a) = nodess (a.args.map (subT Y)) + 1 := by rw [subT_not ha, nodes]
      obtain ⟨X, hX⟩ := ihN (szG Y G') (by omega) V G' Y m mc 0 g1 hl (Nat.le_refl _) debt_zero (by omega)
      obtain ⟨r1, r2⟩ := g3 X hX
      refine ⟨X, r1.cons ?_⟩
      show normP (subT X a) = normP (subT X b)
      rw [subT_not ha, subT_not hb, normP_not (t := .mk a.kind a.name a.var (a.args.map (subT X))) h5, normP_not (t := .mk b.kind b.name b.var (b.args.map (subT X))) h5']
      show Ty.mk a.kind a.name a.var ((a.args.map (subT X)).map normP) = Ty.mk b.kind b.name b.var ((b.args.map (subT X)).map normP)
      rw [List.map_map, List.map_map, r2, hk, n2, n3]
theorem claim_all (S : Nat) : ∀ n N, Claim S n N := by
  intro n
  induction n using Nat.strongRecOn with
  | _ n ihn =>
    intro N
    induction N using Nat.strongRecOn with
    | _ N ihN => exact claim_step (fun n' N' h => ihn n' h N') ihN
end
end Go.Proofs.YthchnabhbpdfgaaDoor
end
