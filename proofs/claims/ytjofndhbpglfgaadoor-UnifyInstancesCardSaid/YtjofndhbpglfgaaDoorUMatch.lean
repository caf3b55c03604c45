/- A type unifies with an instance that has no variables: matching. No program in sight. -/
import Derived.Test.YtjofndhbpglfgaaDoorUSortL
namespace Go.Proofs.YtjofndhbpglfgaaDoor
open Go.RowKit Go.Shelf Go.Sort Stab

mutual
def subT (X : Int → Ty) : Ty → Ty
  | .mk k n v l => if k = 0 then X v else .mk k n v (subTs X l)
def subTs (X : Int → Ty) : List Ty → List Ty
  | [] => []
  | a :: r => subT X a :: subTs X r
end
theorem subTs_map (X : Int → Ty) : ∀ l : List Ty, subTs X l = l.map (subT X)
  | [] => rfl
  | a :: r => by rw [subTs, List.map_cons, subTs_map X r]
theorem subT_var {X : Int → Ty} {t : Ty} (h : t.kind = 0) : subT X t = X t.var := by
  cases t with | mk k n v l => rw [subT, if_pos (show k = 0 from h)]; rfl
theorem subT_not {X : Int → Ty} {t : Ty} (h : t.kind ≠ 0) : subT X t = .mk t.kind t.name t.var (t.args.map (subT X)) := by
  cases t with | mk k n v l => rw [subT, if_neg (show ¬ k = 0 from h), subTs_map]; rfl
theorem ty_ind {P : Ty → Prop} (h : ∀ t, (∀ a ∈ t.args, P a) → P t) (t : Ty) : P t := by
  have : ∀ n (t : Ty), nodes t ≤ n → P t := by
    intro n
    induction n with
    | zero => intro t ht; have := nodes_eq t; omega
    | succ n ih => exact fun t ht => h t fun a ha => ih a (by have := nodes_arg ha; omega)
  exact this _ t (Nat.le_refl _)
/-- No variables. -/
def Cl (t : Ty) : Prop := freeP t = []
theorem Cl.kind {t : Ty} (h : Cl t) : t.kind ≠ 0 := fun h0 => by
  have h2 := freeP_var h0
  unfold Cl at h
  rw [h] at h2; cases h2
theorem cl_iff {t : Ty} : Cl t ↔ ∀ v, v ∉ freeP t := ⟨(fun h v hv => by unfold Cl at h; rw [h] at hv; cases hv), fun h => List.eq_nil_iff_forall_not_mem.2 h⟩
theorem Cl.arg {t a : Ty} (h : Cl t) (ha : a ∈ t.args) : Cl a := cl_iff.2 fun v hv => cl_iff.1 h v ((freeP_args h.kind).2 ⟨a, ha, hv⟩)
theorem Cl.of_args {t : Ty} (h0 : t.kind ≠ 0) (h : ∀ a ∈ t.args, Cl a) : Cl t := cl_iff.2 fun v hv => by
  obtain ⟨a, ha, hva⟩ := (freeP_args h0).1 hv
  exact cl_iff.1 (h a ha) v hva
theorem sub_closed (X : Int → Ty) (t : Ty) : Cl t → subT X t = t := by
  refine ty_ind (P := fun t => Cl t → subT X t = t) (fun t ih h => ?_) t
  rw [subT_not h.kind, List.map_congr_left (g := id) (fun a ha => ih a ha (h.arg ha)), List.map_id]
  cases t; rfl
theorem wf_var {t : Ty} (h : t.Wf) (h0 : t.kind = 0) : t = varT t.var := by
  cases h with
  | mk k n v l hk hs hv hn h0' hl =>
    have hk0 : k = 0 := h0
    subst hk0
    have h2 : (l.length : Int) = 0 := hs (Int.le_refl _)
    have h3 : l = [] := List.eq_nil_of_length_eq_zero (by omega)
    have h4 : n = ⟨#[]⟩ := by
      have := hn (by decide) (by decide)
      have h5 : n.toList = [] := List.isEmpty_iff.1 this
      rw [ByteArray.toList_eq] at h5
      cases n with | mk d =>
      have h6 : d = #[] := Array.toList_eq_nil_iff.1 h5
      rw [h6]
    rw [h3, h4]; rfl

/-! ### Types without variables -/
theorem occL_closed {f : List Bool → Ty → Option (Bool × List Bool)} (s : List Bool) : ∀ l : List Ty, (∀ a ∈ l, f s a = some (false, s)) → occL f l s = some (false, s)
  | [], _ => rfl
  | a :: r, h => by rw [occL, h a List.mem_cons_self]; exact occL_closed s r fun b hb => h b (List.mem_cons_of_mem _ hb)
theorem occ_closed (σ : List Ty) (v : Int) : ∀ (k : Nat) (s : List Bool) (t : Ty), Cl t → nodes t ≤ k → occP σ v k s t = some (false, s)
  | 0, _, t, _, h => by have := nodes_eq t; omega
  | k + 1, s, t, hc, h => by
    rw [occP, if_neg hc.kind]
    exact occL_closed s _ fun a ha => occ_closed σ v k s a (hc.arg ha) (by have := nodes_arg ha; omega)
theorem sizeL_closed {f : List Int → Ty → Option (Int × List Int)} (of : List Int) : ∀ (l : List Ty) (n : Int), (∀ a ∈ l, f of a = some (((min (nodes a) 4097 : Nat) : Int), of)) → 1 ≤ n → n ≤ 4097 → sizeL f l n of = some (min (n + (nodess l : Nat)) 4097, of)
  | [], n, _, h1, h2 => by
    rw [sizeL, nodess]
    rw [show min (n + ((0 : Nat) : Int)) 4097 = n from by omega]
  | a :: r, n, h, h1, h2 => by
    rw [sizeL, h a List.mem_cons_self]
    dsimp only
    have := nodes_eq a
    rw [sizeL_closed of r _ (fun b hb => h b (List.mem_cons_of_mem _ hb)) (by omega) (by omega), nodess]
    rw [show min (min (n + ((min (nodes a) 4097 : Nat) : Int)) 4097 + ((nodess r : Nat) : Int)) 4097 = min (n + ((nodes a + nodess r : Nat) : Int)) 4097 from by omega]
theorem size_closed (σ : List Ty) : ∀ (k : Nat) (of : List Int) (t : Ty), Cl t → nodes t ≤ k → sizeP σ k of t = some (((min (nodes t) 4097 : Nat) : Int), of)
  | 0, _, t, _, h => by have := nodes_eq t; omega
  | k + 1, of, t, hc, h => by
    rw [sizeP, if_neg hc.kind, sizeL_closed of _ 1 (fun a ha => size_closed σ k of a (hc.arg ha) (by have := nodes_arg ha; omega)) (by omega) (by omega)]
    have := nodes_eq t
    rw [show min (1 + ((nodess t.args : Nat) : Int)) 4097 = ((min (nodes t) 4097 : Nat) : Int) from by omega]
theorem walk_closed (σ : List Ty) (k : Nat) {t : Ty} (h : Cl t) : walkP σ (k + 1) t = some t := walk_not σ k h.kind
theorem mapO_id {f : Ty → Option Ty} : ∀ l : List Ty, (∀ a ∈ l, f a = some a) → mapO f l = some l
  | [], _ => rfl
  | a :: r, h => mapO_cons.2 ⟨a, r, h a List.mem_cons_self, mapO_id r fun b hb => h b (List.mem_cons_of_mem _ hb), rfl⟩
theorem apply_closed (σ : List Ty) (k : Nat) : ∀ (q : Nat) (t : Ty), Cl t → nodes t ≤ q → applyP σ (k + 1) q t = some t
  | 0, t, _, h => by have := nodes_eq t; omega
  | q + 1, t, hc, h => by
    rw [applyP, walk_closed σ k hc]
    dsimp only
    split
    · rfl
    · rw [mapO_id _ fun a ha => apply_closed σ k q a (hc.arg ha) (by have := nodes_arg ha; omega)]
      cases t; rfl

/-! ### The substitution while matching -/
structure Mt (X : Int → Ty) (σ : List Ty) : Prop where
  len : σ.length = 12
  at_ : ∀ i : Nat, i < 12 → σ[i]? = some (varT (i : Int)) ∨ ∃ c, σ[i]? = some c ∧ Cl c ∧ c.Wf ∧ nodes c ≤ 4096 ∧ normP c = normP (X (i : Int))
def Bd (σ : List Ty) (v : Nat) : Prop := ∃ c, σ[v]? = some c ∧ Cl c
def In12 (t : Ty) : Prop := ∀ v ∈ freeP t, 0 ≤ v ∧ v < 12
theorem In12.arg {t a : Ty} (h : In12 t) (h0 : t.kind ≠ 0) (ha : a ∈ t.args) : In12 a := fun v hv => h v ((freeP_args h0).2 ⟨a, ha, hv⟩)
theorem Cl.in12 {t : Ty} (h : Cl t) : In12 t := fun v hv => absurd hv (cl_iff.1 h v)
theorem Mt.walk {X : Int → Ty} {σ : List Ty} (h : Mt X σ) (k : Nat) {v : Nat} (hv : v < 12) :
    (σ[v]? = some (varT (v : Int)) ∧ walkP σ (k + 2) (varT (v : Int)) = some (varT (v : Int))) ∨ ∃ c, σ[v]? = some c ∧ Cl c ∧ c.Wf ∧ nodes c ≤ 4096 ∧ normP c = normP (X (v : Int)) ∧ walkP σ (k + 2) (varT (v : Int)) = some c := by
  rw [walkP, if_pos ⟨rfl, by rw [h.len]; show (v : Int) < ((12 : Nat) : Int); omega⟩]
  rw [show (varT (v : Int)).var.toNat = v from rfl]
  rcases h.at_ v hv with e | ⟨c, e, h1, h2, h3, h4⟩
  · left; rw [e]; dsimp only; rw [if_pos ⟨rfl, rfl⟩]; exact ⟨rfl, rfl⟩
  · right; exact ⟨c, e, h1, h2, h3, h4, by rw [e]; dsimp only; rw [if_neg (fun h => h1.kind h.1), walk_closed σ k h1]⟩
theorem Mt.set {X : Int → Ty} {σ : List Ty} (h : Mt X σ) {v : Nat} (hv : v < 12) {c : Ty} (h1 : Cl c) (h2 : c.Wf) (h3 : nodes c ≤ 4096) (h4 : normP c = normP (X (v : Int))) : Mt X (σ.set v c) := by
  refine ⟨by rw [List.length_set]; exact h.len, fun i hi => ?_⟩
  by_cases e : v = i
  · subst e
    exact .inr ⟨c, by rw [List.getElem?_set_self (by rw [h.len]; exact hv)], h1, h2, h3, h4⟩
  · rw [List.getElem?_set_ne e]
    exact h.at_ i hi
theorem Mt.sizedL {X : Int → Ty} {σ : List Ty} (h : Mt X σ) (k : Nat) (hk : 4096 ≤ k) : ∀ (l : List Nat) (of : List Int), (∀ v ∈ l, v < 12) → (∀ i, of.getD i 0 ≤ 4096) → Go.Proofs.YtjofndhbpglfgaaDoor.sizedL σ (k + 1) l of = some 0
  | [], _, _, _ => rfl
  | v :: l, of, hl, ho => by
    have hl2 : ∀ w ∈ l, w < 12 := fun w hw => hl w (List.mem_cons_of_mem _ hw)
    have hs : ∃ m of', sizeP σ (k + 1) of (varT (v : Int)) = some (m, of') ∧ m ≤ 4096 ∧ ∀ i, of'.getD i 0 ≤ 4096 := by
      rw [sizeP, if_pos (show (varT (v : Int)).kind = 0 from rfl), show (varT (v : Int)).var.toNat = v from rfl]
      rcases h.at_ v (hl v List.mem_cons_self) with e | ⟨c, e, h1, h2, h3, h4⟩
      · rw [e]; dsimp only; rw [if_pos ⟨rfl, rfl⟩]; exact ⟨1, of, rfl, by decide, ho⟩
      · rw [e]; dsimp only; rw [if_neg (fun h => h1.kind h.1)]
        split
        · rw [size_closed σ k of c h1 (by omega)]
          refine ⟨_, _, rfl, by omega, fun i => ?_⟩
          rw [List.getD_eq_getElem?_getD]
          by_cases e2 : v = i
          · subst e2
            by_cases hv : v < of.length
            · rw [List.getElem?_set_self hv]; show ((min (nodes c) 4097 : Nat) : Int) ≤ 4096; omega
            · rw [List.getElem?_eq_none (by rw [List.length_set]; omega)]; decide
          · rw [List.getElem?_set_ne e2, ← List.getD_eq_getElem?_getD]; exact ho i
        · exact ⟨_, of, rfl, ho v, ho⟩
    obtain ⟨m, of', hs1, hs2, hs3⟩ := hs
    rw [Go.Proofs.YtjofndhbpglfgaaDoor.sizedL, hs1]
    dsimp only
    rw [if_neg (by omega)]
    exact Mt.sizedL h k hk l of' hl2 hs3
theorem Mt.bind {X : Int → Ty} {σ : List Ty} (h : Mt X σ) (k : Nat) (hk : 4096 ≤ k) {v : Nat} (hv : v < 12) {c : Ty} (h1 : Cl c) (h2 : c.Wf) (h3 : nodes c ≤ 4096) (h4 : normP c = normP (X (v : Int))) :
    bindP (k + 1) σ (v : Int) c = some (0, σ.set v c) := by
  rw [bindP, if_neg (fun h => h1.kind h.1), occ_closed σ _ (k + 1) _ c h1 (by omega)]
  dsimp only
  rw [Int.toNat_natCast, sizedP, (h.set hv h1 h2 h3 h4).sizedL k hk _ _ (fun w hw => by rw [List.length_set, h.len] at hw; exact List.mem_range.1 hw) (fun i => by
    rw [List.getD_eq_getElem?_getD, List.getElem?_replicate]
    split <;> decide)]
theorem tail_closed (σ : List Ty) (k : Nat) : ∀ (q : Nat) (t : Ty), Cl t → t.Wf → nodes t ≤ q → ∃ r, tailL σ (k + 1) q t = some r
  | 0, t, _, _, h => by have := nodes_eq t; omega
  | q + 1, t, hc, hw, h => by
    rw [tailL]
    split
    · rename_i h5
      obtain ⟨x, y, e⟩ := hw.two h5
      have hy : y ∈ t.args := by rw [e]; simp
      rw [e]
      dsimp only
      rw [walk_closed σ k (hc.arg hy)]
      exact tail_closed σ k q y (hc.arg hy) (hw.arg hy) (by have := nodes_arg hy; omega)
    · exact ⟨_, rfl⟩
theorem Mt.tailL {X : Int → Ty} {σ : List Ty} (h : Mt X σ) (k : Nat) : ∀ (q : Nat) (t : Ty), In12 t → t.Wf → nodes t + 4097 ≤ q → ∃ r, Go.Proofs.YtjofndhbpglfgaaDoor.tailL σ (k + 2) q t = some r
  | 0, t, _, _, h => by omega
  | q + 1, t, hi, hw, hq => by
    rw [Go.Proofs.YtjofndhbpglfgaaDoor.tailL]
    split
    · rename_i h5
      obtain ⟨x, y, e⟩ := hw.two h5
      have hy : y ∈ t.args := by rw [e]; simp
      have hn := nodes_arg hy
      have h0 : t.kind ≠ 0 := by rw [h5]; decide
      rw [e]
      dsimp only
      by_cases hk : y.kind = 0
      · have hv := hi.arg h0 hy y.var (by rw [freeP_var hk]; exact List.mem_singleton.2 rfl)
        have e2 := wf_var (hw.arg hy) hk
        obtain ⟨v, hv2⟩ : ∃ v : Nat, y.var = (v : Int) := ⟨y.var.toNat, by omega⟩
        rw [hv2] at e2 hv
        rw [e2]
        rcases h.walk k (v := v) (by omega) with ⟨_, e3⟩ | ⟨c, _, h1, h2, h3, _, e3⟩
        · rw [e3]
          dsimp only
          obtain ⟨q, rfl⟩ : ∃ q', q = q' + 1 := ⟨q - 1, by omega⟩
          rw [Go.Proofs.YtjofndhbpglfgaaDoor.tailL, if_neg (show ¬ (varT (v : Int)).kind = 5 from (by decide : ¬ (0 : Int) = 5))]
          exact ⟨_, rfl⟩
        · rw [e3]
          exact tail_closed σ (k + 1) q c h1 h2 (by omega)
      · rw [walk_not σ (k + 1) hk]
        exact Mt.tailL h k q y (hi.arg h0 hy) (hw.arg hy) (by omega)
    · exact ⟨_, rfl⟩
/-- Taking a label off a row without variables. -/
theorem extract_closed (σ : List Ty) (k : Nat) (n : ByteArray) (v : Int) (u : Ty) : ∀ (q : Nat) (c : Ty) (M' : List (ByteArray × Ty)), Cl c → c.Wf → nodes c ≤ q → take1 n (rowP c).1 = some (u, M') →
    ∃ t rest, extractP (k + 1) n v q σ c = some (t, rest, 0, σ) ∧ normP t = u ∧ rowP rest = (M', (rowP c).2) ∧ Cl t ∧ t.Wf ∧ Cl rest ∧ rest.Wf ∧ nodes t + nodes rest < nodes c
  | 0, c, _, _, _, h, _ => by have := nodes_eq c; omega
  | q + 1, c, M', hc, hw, h, ht => by
    by_cases h5 : c.kind = 5
    · obtain ⟨x, y, e⟩ := hw.two h5
      have hx : x ∈ c.args := by rw [e]; simp
      have hy : y ∈ c.args := by rw [e]; simp
      have hnc : nodes c = nodes x + nodes y + 1 := by rw [nodes_eq c, e]; simp only [nodess]; omega
      rw [rowP_ext h5 e] at ht ⊢
      rw [extractP, walk_closed σ k hc]
      dsimp only
      rw [if_neg hc.kind, if_neg (by rw [h5]; simp), e]
      dsimp only
      rw [take1] at ht
      dsimp only at ht
      by_cases hn : c.name = n
      · rw [if_pos hn] at ht ⊢
        simp only [Option.some.injEq, Prod.mk.injEq] at ht
        refine ⟨x, y, rfl, ht.1, ?_, hc.arg hx, hw.arg hx, hc.arg hy, hw.arg hy, by omega⟩
        rw [← ht.2]
      · rw [if_neg hn] at ht ⊢
        cases h1 : take1 n (rowP y).1 with
        | none => rw [h1] at ht; cases ht
        | some p =>
          rw [h1] at ht
          simp only [Option.some.injEq, Prod.mk.injEq] at ht
          obtain ⟨ht1, ht2⟩ := ht
          obtain ⟨t, rest, e1, e2, e3, e4, e5, e6, e7, e8⟩ := extract_closed σ k n v u q y p.2 (hc.arg hy) (hw.arg hy) (by omega) (by rw [h1, ← ht1])
          rw [e1]
          have hr0 : (extT c.name x rest).kind ≠ 0 := by show (5 : Int) ≠ 0; decide
          refine ⟨t, extT c.name x rest, rfl, e2, ?_, e4, e5, Cl.of_args hr0 (fun a ha => ?_), ?_, ?_⟩
          · rw [rowP_ext (t := extT c.name x rest) rfl rfl, e3, ← ht2]; rfl
          · rcases List.mem_cons.1 ha with rfl | ha
            · exact hc.arg hx
            · rw [List.mem_singleton.1 ha]; exact e6
          · refine .mk 5 c.name 0 [x, rest] (by decide) (fun _ => rfl) (fun _ => rfl) (fun _ h => absurd rfl h) (fun h => absurd h (by decide)) (fun a ha => ?_)
            rcases List.mem_cons.1 ha with rfl | ha
            · exact hw.arg hx
            · rw [List.mem_singleton.1 ha]; exact e7
          · have := nodes_eq (extT c.name x rest)
            have h3 : nodess (extT c.name x rest).args = nodes x + (nodes rest + 0) := rfl
            omega
    · rw [rowP_not h5] at ht
      cases ht
theorem subT_wf {X : Int → Ty} (hX : ∀ v, (X v).Wf) (t : Ty) : t.Wf → (subT X t).Wf := by
  refine ty_ind (P := fun t => t.Wf → (subT X t).Wf) (fun t ih h => ?_) t
  by_cases h0 : t.kind = 0
  · rw [subT_var h0]; exact hX _
  · rw [subT_not h0]
    cases h with
    | mk k n v l hk hs hv hn h0' hl =>
      refine .mk k n v _ hk (fun h => ?_) hv hn h0' (fun a ha => ?_)
      · rw [List.length_map]; exact hs h
      · obtain ⟨b, hb, rfl⟩ := List.mem_map.1 ha
        exact ih b hb (hl b hb)
/-- What matching leaves. -/
def Mtd (X : Int → Ty) (σ : List Ty) (p : Ty) (σ' : List Ty) : Prop := Mt X σ' ∧ (∀ v, Bd σ v → σ'[v]? = σ[v]?) ∧ ∀ v ∈ freeP p, Bd σ' v.toNat
theorem match_list {X : Int → Ty} {f : List Ty → Ty → Ty → Option (Int × List Ty)} : ∀ (l m : List Ty) (σ : List Ty), Mt X σ → l.map (fun a => normP (subT X a)) = m.map normP →
    (∀ σ, Mt X σ → ∀ a ∈ l, ∀ b ∈ m, normP (subT X a) = normP b → ∃ σ', f σ a b = some (0, σ') ∧ Mtd X σ a σ') → ∃ σ', unifyL f l m σ = some (0, σ') ∧ Mt X σ' ∧ (∀ v, Bd σ v → σ'[v]? = σ[v]?) ∧ ∀ a ∈ l, ∀ v ∈ freeP a, Bd σ' v.toNat
  | [], [], σ, h, _, _ => ⟨σ, rfl, h, fun _ _ => rfl, fun a ha => by cases ha⟩
  | [], _ :: _, _, _, h, _ => by cases h
  | _ :: _, [], _, _, h, _ => by cases h
  | a :: l, b :: m, σ, h, he, hf => by
    simp only [List.map_cons, List.cons.injEq] at he
    obtain ⟨σ1, h1, h2, h3, h4⟩ := hf σ h a List.mem_cons_self b List.mem_cons_self he.1
    obtain ⟨σ2, k1, k2, k3, k4⟩ := match_list l m σ1 h2 he.2 (fun σ hσ a ha b hb => hf σ hσ a (List.mem_cons_of_mem _ ha) b (List.mem_cons_of_mem _ hb))
    have hup : ∀ v, Bd σ v → Bd σ1 v := fun v ⟨c, hc, hcl⟩ => ⟨c, by rw [h3 v ⟨c, hc, hcl⟩]; exact hc, hcl⟩
    have hup1 : ∀ v, Bd σ1 v → Bd σ2 v := fun v ⟨c, hc, hcl⟩ => ⟨c, by rw [k3 v ⟨c, hc, hcl⟩]; exact hc, hcl⟩
    refine ⟨σ2, by rw [unifyL, h1]; dsimp only; rw [if_neg (by simp)]; exact k1, k2, fun v hv => (k3 v (hup v hv)).trans (h3 v hv), fun x hx v hv => ?_⟩
    rcases List.mem_cons.1 hx with rfl | hx
    · exact hup1 _ (h4 v hv)
    · exact k4 x hx v hv
theorem match_law {X : Int → Ty} (hX : ∀ v, (X v).Wf) (k : Nat) (hk : 9000 ≤ k) : ∀ (n q : Nat) (σ : List Ty) (p c : Ty), nodes c ≤ n → n < q → Mt X σ → p.Wf → In12 p → nodes p ≤ 4096 → Cl c → c.Wf → nodes c ≤ 4096 → normP (subT X p) = normP c →
    ∃ σ', unifyP (k + 2) q σ p c = some (0, σ') ∧ Mtd X σ p σ'
  | 0, _, _, _, c, h, _, _, _, _, _, _, _, _, _ => by have := nodes_eq c; omega
  | n + 1, 0, _, _, _, _, h, _, _, _, _, _, _, _, _ => by omega
  | n + 1, q + 1, σ, p, c, hn, hq, hm, hp, hi, hpn, hc, hcw, hcn, he => by
    -- what is done with a type that is no variable
    have body : ∀ p : Ty, p.kind ≠ 0 → p.Wf → In12 p → nodes p ≤ 4096 → normP (subT X p) = normP c → ∃ σ',
        (if p.kind = 5 ∧ 4 ≤ c.kind then rowsP (k + 2) (unifyP (k + 2) q) σ p c else if p.kind ≠ c.kind ∨ p.name ≠ c.name ∨ p.args.length ≠ c.args.length then some (10, σ) else unifyL (unifyP (k + 2) q) p.args c.args σ) = some (0, σ') ∧ Mtd X σ p σ' := by
      intro p h0 hp hi hpn he
      obtain ⟨he1, he2⟩ := (eqv_iff (subT_wf hX p hp).nok hcw.nok).1 he
      by_cases h5 : p.kind = 5
      · obtain ⟨t, r, e⟩ := hp.two h5
        have htm : t ∈ p.args := by rw [e]; simp
        have hrm : r ∈ p.args := by rw [e]; simp
        have es : subT X p = .mk p.kind p.name p.var [subT X t, subT X r] := by rw [subT_not h0, e]; rfl
        have er := rowP_ext (t := subT X p) (a := subT X t) (r := subT X r) (by rw [es]; exact h5) (by rw [es]; rfl)
        have en : (subT X p).name = p.name := by rw [es]; rfl
        rw [en] at er
        rw [er] at he1 he2
        obtain ⟨M', ht1, ht2⟩ := fl_take (x := (p.name, normP (subT X t))) he1
        dsimp only at ht1 he2
        have hc5 : c.kind = 5 := by
          by_cases h : c.kind = 5
          · exact h
          · rw [rowP_not h] at ht1; cases ht1
        obtain ⟨tv, htv⟩ := hm.tailL k (k + 2) p hi hp (by omega)
        obtain ⟨t', rest, x1, x2, x3, x4, x5, x6, x7, x8⟩ := extract_closed σ (k + 1) p.name tv (normP (subT X t)) (k + 2) c M' hc hcw (by omega) ht1
        obtain ⟨σ1, y1, y2, y3, y4⟩ := match_law hX k hk n q σ t t' (by omega) (by omega) hm (hp.arg htm) (hi.arg h0 htm) (by have := nodes_arg htm; omega) x4 x5 (by omega) x2.symm
        have hrr : normP (subT X r) = normP rest := (eqv_iff (subT_wf hX r (hp.arg hrm)).nok x7.nok).2 ⟨fun n => by rw [x3]; exact ht2 n, by rw [x3]; exact he2⟩
        obtain ⟨σ2, z1, z2, z3, z4⟩ := match_law hX k hk n q σ1 r rest (by omega) (by omega) y2 (hp.arg hrm) (hi.arg h0 hrm) (by have := nodes_arg hrm; omega) x6 x7 (by omega) hrr
        have hup : ∀ v, Bd σ v → Bd σ1 v := fun v ⟨c, hc, hcl⟩ => ⟨c, by rw [y3 v ⟨c, hc, hcl⟩]; exact hc, hcl⟩
        have hup1 : ∀ v, Bd σ1 v → Bd σ2 v := fun v ⟨c, hc, hcl⟩ => ⟨c, by rw [z3 v ⟨c, hc, hcl⟩]; exact hc, hcl⟩
        refine ⟨σ2, ?_, z2, fun v hv => (z3 v (hup v hv)).trans (y3 v hv), fun v hv => ?_⟩
        · rw [if_pos ⟨h5, by rw [hc5]; decide⟩, rowsP, tailP, walk_not σ (k + 1) h0]
          dsimp only
          rw [htv]
          dsimp only
          rw [x1]
          dsimp only
          rw [if_neg (by simp), e]
          dsimp only
          rw [y1]
          dsimp only
          rw [if_neg (by simp)]
          exact z1
        · obtain ⟨a, ha, hva⟩ := (freeP_args h0).1 hv
          rw [e] at ha
          rcases List.mem_cons.1 ha with rfl | ha
          · exact hup1 _ (y4 v hva)
          · rw [List.mem_singleton.1 ha] at hva; exact z4 v hva
      · have es := subT_not (X := X) h0
        have hs5 : (subT X p).kind ≠ 5 := by rw [es]; exact h5
        rw [rowP_not hs5] at he1 he2
        have hc5 : c.kind ≠ 5 := fun h => by
          obtain ⟨x, y, e⟩ := hcw.two h
          rw [rowP_ext h e] at he1
          have := he1 c.name
          rw [fl_cons, if_pos rfl] at this
          cases this
        rw [rowP_not hc5] at he2
        dsimp only at he2
        rw [es] at he2
        simp only [Ty.kind, Ty.name, Ty.var, Ty.args, Ty.mk.injEq] at he2
        obtain ⟨e1, e2, e3, e4⟩ := he2
        have e1' : p.kind = c.kind := e1
        have e2' : p.name = c.name := e2
        have e4' : p.args.map (fun a => normP (subT X a)) = c.args.map normP := by rw [List.map_map] at e4; exact e4
        have hl : p.args.length = c.args.length := by have := congrArg List.length e4'; simpa using this
        obtain ⟨σ', y1, y2, y3, y4⟩ := match_list p.args c.args σ hm e4' (f := unifyP (k + 2) q) fun σ hσ a ha b hb hab =>
          match_law hX k hk n q σ a b (by have := nodes_arg hb; omega) (by omega) hσ (hp.arg ha) (hi.arg h0 ha) (by have := nodes_arg ha; omega) (hc.arg hb) (hcw.arg hb) (by have := nodes_arg hb; omega) hab
        refine ⟨σ', ?_, y2, y3, fun v hv => ?_⟩
        · rw [if_neg (fun h => h5 h.1), if_neg (by rw [e1', e2', hl]; simp)]
          exact y1
        · obtain ⟨a, ha, hva⟩ := (freeP_args h0).1 hv
          exact y4 a ha v hva
    by_cases h0 : p.kind = 0
    · have hv := hi p.var (by rw [freeP_var h0]; exact List.mem_singleton.2 rfl)
      have e2 := wf_var hp h0
      obtain ⟨v, hv2⟩ : ∃ v : Nat, p.var = (v : Int) := ⟨p.var.toNat, by omega⟩
      rw [hv2] at e2 hv
      have hv12 : v < 12 := by omega
      rw [subT_var h0, hv2] at he
      have hfr : freeP p = [(v : Int)] := by rw [freeP_var h0, hv2]
      rcases hm.walk k hv12 with ⟨e5, e3⟩ | ⟨c', hcv, h1, h2, h3, h4, e3⟩
      · refine ⟨σ.set v c, ?_, hm.set hv12 hc hcw hcn he.symm, fun w hw => ?_, fun w hw => ?_⟩
        · rw [e2, unifyP, e3]
          dsimp only
          rw [walk_closed σ (k + 1) hc]
          dsimp only
          rw [if_pos (show (varT (v : Int)).kind = 0 from rfl)]
          exact hm.bind (k + 1) (by omega) hv12 hc hcw hcn he.symm
        · refine List.getElem?_set_ne ?_
          rintro rfl
          obtain ⟨d, hd, hdc⟩ := hw
          rw [e5] at hd
          have := Option.some.inj hd
          rw [← this] at hdc
          exact hdc.kind rfl
        · rw [hfr, List.mem_singleton] at hw
          subst hw
          exact ⟨c, by rw [Int.toNat_natCast, List.getElem?_set_self (by rw [hm.len]; exact hv12)], hc⟩
      · obtain ⟨σ', b1, b2, b3, b4⟩ := body c' h1.kind h2 h1.in12 h3 (by rw [sub_closed X c' h1, h4]; exact he)
        refine ⟨σ', ?_, b2, b3, fun w hw => ?_⟩
        · rw [e2, unifyP, e3]
          dsimp only
          rw [walk_closed σ (k + 1) hc]
          dsimp only
          rw [if_neg h1.kind, if_neg hc.kind]
          exact b1
        · rw [hfr, List.mem_singleton] at hw
          subst hw
          exact ⟨c', by rw [Int.toNat_natCast, b3 v ⟨c', hcv, h1⟩]; exact hcv, h1⟩
    · obtain ⟨σ', b1, b2⟩ := body p h0 hp hi hpn he
      refine ⟨σ', ?_, b2⟩
      rw [unifyP, walk_not σ (k + 1) h0]
      dsimp only
      rw [walk_closed σ (k + 1) hc]
      dsimp only
      rw [if_neg h0, if_neg hc.kind]
      exact b1
end Go.Proofs.YtjofndhbpglfgaaDoor
