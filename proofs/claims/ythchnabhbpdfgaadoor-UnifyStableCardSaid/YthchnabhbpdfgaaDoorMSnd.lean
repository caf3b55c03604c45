/- The unifier's substitution stays fine: the occurs check, a variable bound, fresh variables. No program in sight. Apply ends; what it makes of types. No program in sight. What Apply makes of types at a good substitution; a substitution that keeps what is bound. No program in sight. Walk at a good substitution. No program in sight. Replacing variables keeps equality but for the order of different labels. No program in sight. The unifier's parts end, and more fuel changes nothing. No program in sight. A variable bound, as the unifier does it: it ends, and what is bound makes both equal. No program in sight. -/
import Derived.Test.YthchnabhbpdfgaaDoorMAcy
section
namespace Go.Proofs.YthchnabhbpdfgaaDoor
open Go.RowKit Go.Shelf

/-! ### The occurs check -/
section
variable {σ : List Ty} {v : Int}
def SeenUp (s s' : List Bool) : Prop := s'.length = s.length ∧ ∀ u, s.getD u false = true → s'.getD u false = true
/-- What is newly seen is not the variable, and all that it leads to is seen. -/
def SeenCl (σ : List Ty) (v : Int) (s s' : List Bool) : Prop := ∀ u, s'.getD u false = true → s.getD u false = true ∨ ((u : Int) ≠ v ∧ (selfB σ u = true ∨ ∀ w ∈ freeAt σ u, s'.getD w.toNat false = true))
theorem SeenUp.refl (s : List Bool) : SeenUp s s := ⟨rfl, fun _ h => h⟩
theorem SeenUp.trans {a b c : List Bool} (h : SeenUp a b) (k : SeenUp b c) : SeenUp a c := ⟨k.1.trans h.1, fun u hu => k.2 u (h.2 u hu)⟩
theorem SeenCl.refl (s : List Bool) : SeenCl σ v s s := fun _ h => .inl h
theorem SeenCl.trans {a b c : List Bool} (h : SeenCl σ v a b) (k : SeenCl σ v b c) (m : SeenUp b c) : SeenCl σ v a c := fun u hu => by
  rcases k u hu with h1 | h1
  · rcases h u h1 with h2 | ⟨h2, h3⟩
    · exact .inl h2
    · exact .inr ⟨h2, h3.imp id fun h4 w hw => m.2 _ (h4 w hw)⟩
  · exact .inr h1
theorem getDb_set (s : List Bool) (i u : Nat) : (s.set i true).getD u false = if i = u ∧ u < s.length then true else s.getD u false := by
  rw [List.getD_eq_getElem?_getD, List.getD_eq_getElem?_getD]
  by_cases h : i = u
  · subst h
    by_cases hl : i < s.length
    · rw [List.getElem?_set_self hl, if_pos ⟨rfl, hl⟩]; rfl
    · rw [if_neg (fun h => hl h.2), List.getElem?_eq_none (by rw [List.length_set]; omega), List.getElem?_eq_none (by omega)]
  · rw [List.getElem?_set_ne h, if_neg (fun h2 => h h2.1)]
theorem SeenUp.set (s : List Bool) (i : Nat) : SeenUp s (s.set i true) := ⟨List.length_set, fun u hu => by rw [getDb_set]; split; rfl; exact hu⟩
def OccInv (σ : List Ty) (v : Int) (s s' : List Bool) (l : List Int) : Prop := SeenUp s s' ∧ SeenCl σ v s s' ∧ ∀ w ∈ l, s'.getD w.toNat false = true ∧ w ≠ v
theorem occL_inv {f : List Bool → Ty → Option (Bool × List Bool)} (n : Nat) : ∀ (l : List Ty) (s s' : List Bool), (∀ a ∈ l, ∀ s s', s.length = n → f s a = some (false, s') → OccInv σ v s s' (freeP a)) → s.length = n → occL f l s = some (false, s') → SeenUp s s' ∧ SeenCl σ v s s' ∧ ∀ a ∈ l, ∀ w ∈ freeP a, s'.getD w.toNat false = true ∧ w ≠ v
  | [], s, s', _, _, h => by
    simp only [occL, Option.some.injEq, Prod.mk.injEq, true_and] at h
    subst h
    exact ⟨.refl _, .refl _, fun a ha => by cases ha⟩
  | a :: r, s, s', hf, hn, h => by
    rw [occL] at h
    split at h
    · cases h
    · cases h
    · rename_i s1 h1
      obtain ⟨p1, p2, p3⟩ := hf a List.mem_cons_self s s1 hn h1
      obtain ⟨q1, q2, q3⟩ := occL_inv n r s1 s' (fun b hb => hf b (List.mem_cons_of_mem _ hb)) (p1.1.trans hn) h
      refine ⟨p1.trans q1, p2.trans q2 q1, fun b hb w hw => ?_⟩
      rcases List.mem_cons.1 hb with rfl | hb
      · exact ⟨q1.2 _ (p3 w hw).1, (p3 w hw).2⟩
      · exact q3 b hb w hw
theorem occ_inv (hσ : SubIn σ) : ∀ (k : Nat) (s s' : List Bool) (t : Ty), s.length = σ.length → VIn σ t → occP σ v k s t = some (false, s') → OccInv σ v s s' (freeP t)
  | 0, _, _, _, _, _, h => by cases h
  | k + 1, s, s', t, hl, hV, h => by
    rw [occP] at h
    by_cases h0 : t.kind = 0
    · rw [if_pos h0] at h
      have hvt := hV t.var (by rw [freeP_var h0]; exact List.mem_singleton.2 rfl)
      have hcast : ((t.var.toNat : Nat) : Int) = t.var := by omega
      split at h
      · rename_i h1
        simp only [Option.some.injEq, Prod.mk.injEq, decide_eq_false_iff_not] at h
        obtain ⟨hne, rfl⟩ := h
        refine ⟨.refl _, .refl _, fun w hw => ?_⟩
        rw [freeP_var h0, List.mem_singleton] at hw
        subst hw
        exact ⟨h1.resolve_left hne, hne⟩
      · rename_i h1
        have hne : t.var ≠ v := fun e => h1 (.inl e)
        have hset : (s.set t.var.toNat true).getD t.var.toNat false = true := by rw [getDb_set, if_pos ⟨rfl, by omega⟩]
        split at h
        · cases h
        · rename_i x hx
          have hfr : freeAt σ t.var.toNat = freeP x := by unfold freeAt; rw [hx]
          split at h
          · obtain ⟨p1, p2, p3⟩ := occ_inv hσ k _ s' x (by rw [List.length_set]; exact hl) (fun w hw => hσ x (List.mem_of_getElem? hx) w hw) h
            refine ⟨(SeenUp.set s _).trans p1, fun u hu => ?_, fun w hw => ?_⟩
            · rcases p2 u hu with h2 | h2
              · rw [getDb_set] at h2
                split at h2
                · rename_i h3
                  rw [← h3.1]
                  exact .inr ⟨by rw [hcast]; exact hne, .inr fun w hw => by rw [hfr] at hw; exact (p3 w hw).1⟩
                · exact .inl h2
              · exact .inr h2
            · rw [freeP_var h0, List.mem_singleton] at hw
              subst hw
              exact ⟨p1.2 _ hset, hne⟩
          · rename_i h2
            simp only [Option.some.injEq, Prod.mk.injEq, true_and] at h
            subst h
            have hs : selfB σ t.var.toNat = true := selfB_iff.2 ⟨x, hx, by
              apply Classical.byContradiction; intro e; exact h2 (.inl e), by
              rw [hcast]; apply Classical.byContradiction; intro e; exact h2 (.inr e)⟩
            refine ⟨SeenUp.set s _, fun u hu => ?_, fun w hw => ?_⟩
            · rw [getDb_set] at hu
              split at hu
              · rename_i h3
                rw [← h3.1]
                exact .inr ⟨by rw [hcast]; exact hne, .inl hs⟩
              · exact .inl hu
            · rw [freeP_var h0, List.mem_singleton] at hw
              subst hw
              exact ⟨hset, hne⟩
    · rw [if_neg h0] at h
      obtain ⟨p1, p2, p3⟩ := occL_inv σ.length t.args s s' (fun a ha s1 s2 hl1 h1 => occ_inv hσ k s1 s2 a hl1 (hV.arg h0 ha) h1) hl h
      refine ⟨p1, p2, fun w hw => ?_⟩
      obtain ⟨a, ha, hwa⟩ := (freeP_args h0).1 hw
      exact p3 a ha w hwa
/-- A variable that does not lead to v. -/
inductive Away (σ : List Ty) (v : Int) : Nat → Prop where
  | self (u : Nat) (hv : (u : Int) ≠ v) (h : selfB σ u = true) : Away σ v u
  | node (u : Nat) (hv : (u : Int) ≠ v) (h : ∀ w ∈ freeAt σ u, Away σ v w.toNat) : Away σ v u
theorem Away.ne {u : Nat} (h : Away σ v u) : (u : Int) ≠ v := by cases h <;> assumption
theorem away_of {s' : List Bool} (hc : SeenCl σ v (List.replicate σ.length false) s') {u : Nat} (ha : Acy σ u) : s'.getD u false = true → Away σ v u := by
  have h0 : ∀ u, ¬ (List.replicate σ.length false).getD u false = true := fun u h => by
    rw [List.getD_eq_getElem?_getD, List.getElem?_replicate] at h
    split at h <;> simp at h
  induction ha with
  | self u h => exact fun hu => .self u ((hc u hu).resolve_left (h0 u)).1 h
  | node u h ih =>
    intro hu
    obtain ⟨h1, h2⟩ := (hc u hu).resolve_left (h0 u)
    rcases h2 with h2 | h2
    · exact .self u h1 h2
    · exact .node u h1 fun w hw => ih w hw (h2 w hw)
/-- Where the occurs check finds nothing no variable of the type leads to v. -/
theorem occ_away (hσ : SubIn σ) (hacy : ∀ u, u < σ.length → Acy σ u) {k : Nat} {t : Ty} {s' : List Bool} (hV : VIn σ t) (h : occP σ v k (List.replicate σ.length false) t = some (false, s')) : ∀ w ∈ freeP t, Away σ v w.toNat := fun w hw => by
  obtain ⟨_, p2, p3⟩ := occ_inv hσ k _ s' t List.length_replicate hV h
  exact away_of p2 (hacy _ (by have := hV w hw; omega)) (p3 w hw).1
end
/-! ### A variable bound -/
section
variable {σ : List Ty}
theorem get_set_ne {v u : Nat} (t : Ty) (h : u ≠ v) : (σ.set v t)[u]? = σ[u]? := List.getElem?_set_ne (fun e => h e.symm)
theorem selfB_set {v u : Nat} (t : Ty) (h : u ≠ v) : selfB (σ.set v t) u = selfB σ u := by unfold selfB; rw [get_set_ne t h]
theorem freeAt_set {v u : Nat} (t : Ty) (h : u ≠ v) : freeAt (σ.set v t) u = freeAt σ u := by unfold freeAt; rw [get_set_ne t h]
theorem away_acy {v : Nat} (t : Ty) {u : Nat} (h : Away σ (v : Int) u) : Acy (σ.set v t) u := by
  induction h with
  | self u hv h => exact .self u (by rw [selfB_set t (fun e => hv (by rw [e]))]; exact h)
  | node u hv h ih => exact .node u fun w hw => ih w (by rw [freeAt_set t (fun e => hv (by rw [e]))] at hw; exact hw)
theorem acy_set {v : Nat} {t : Ty} (ht : ∀ w ∈ freeP t, Away σ (v : Int) w.toNat) (hv : v < σ.length) {u : Nat} (h : Acy σ u) : Acy (σ.set v t) u := by
  have hvv : Acy (σ.set v t) v := .node v fun w hw => by
    unfold freeAt at hw
    rw [List.getElem?_set_self hv] at hw
    exact away_acy t (ht w hw)
  induction h with
  | self u h =>
    by_cases e : u = v
    · rw [e]; exact hvv
    · exact .self u (by rw [selfB_set t e]; exact h)
  | node u h ih =>
    by_cases e : u = v
    · rw [e]; exact hvv
    · exact .node u fun w hw => ih w (by rw [freeAt_set t e] at hw; exact hw)
/-- A substitution as the unifier keeps it. -/
structure Gd (σ : List Ty) : Prop where
  inn : SubIn σ
  wf : ∀ x ∈ σ, x.Wf
  acy : ∀ v, v < σ.length → Acy σ v
  len : σ.length ≤ 4096
theorem Gd.set (h : Gd σ) {v : Nat} {t : Ty} (hv : v < σ.length) (ht : t.Wf) (hV : VIn σ t) (ha : ∀ w ∈ freeP t, Away σ (v : Int) w.toNat) : Gd (σ.set v t) := by
  refine ⟨h.inn.set v hV, fun x hx => ?_, fun u hu => acy_set ha hv (h.acy u (by rw [List.length_set] at hu; exact hu)), by rw [List.length_set]; exact h.len⟩
  rcases List.mem_or_eq_of_mem_set hx with hx | rfl
  · exact h.wf x hx
  · exact ht
/-! ### Two fresh variables -/
theorem varT_wf0 {v : Int} (h : 0 ≤ v) : (varT v).Wf := .mk 0 ⟨#[]⟩ v [] (by decide) (fun _ => rfl) (fun h => absurd rfl h) (fun _ _ => by simp [ByteArray.toList_eq]) (fun _ => h) (fun a ha => by cases ha)
theorem get_two {a b : Ty} {u : Nat} (h : u < σ.length) : (σ ++ [a, b])[u]? = σ[u]? := List.getElem?_append_left h
theorem acy_two {u : Nat} (hσ : SubIn σ) (h : Acy σ u) (hu : u < σ.length) : Acy (σ ++ [varT (σ.length : Int), varT ((σ.length : Int) + 1)]) u := by
  induction h with
  | self u h => exact .self u (by unfold selfB at h ⊢; rw [get_two hu]; exact h)
  | node u h ih =>
    refine .node u fun w hw => ?_
    have hw' : w ∈ freeAt σ u := by unfold freeAt at hw ⊢; rw [get_two hu] at hw; exact hw
    exact ih w hw' (freeAt_in hσ w hw')
theorem self_new (n : Nat) (h : n = σ.length ∨ n = σ.length + 1) : selfB (σ ++ [varT (σ.length : Int), varT ((σ.length : Int) + 1)]) n = true := by
  rcases h with rfl | rfl
  · exact selfB_iff.2 ⟨varT (σ.length : Int), by simp, rfl, rfl⟩
  · exact selfB_iff.2 ⟨varT ((σ.length : Int) + 1), by simp, rfl, by show (σ.length : Int) + 1 = ((σ.length + 1 : Nat) : Int); omega⟩
theorem Gd.two (h : Gd σ) (hl : σ.length + 2 ≤ 4096) : Gd (σ ++ [varT (σ.length : Int), varT ((σ.length : Int) + 1)]) := by
  refine ⟨h.inn.two, fun x hx => ?_, fun u hu => ?_, by simp; omega⟩
  · rcases List.mem_append.1 hx with hx | hx
    · exact h.wf x hx
    · simp only [List.mem_cons, List.not_mem_nil, or_false] at hx
      rcases hx with rfl | rfl
      · exact varT_wf0 (by omega)
      · exact varT_wf0 (by omega)
  · by_cases hlt : u < σ.length
    · exact acy_two h.inn (h.acy u hlt) hlt
    · simp only [List.length_append, List.length_cons, List.length_nil] at hu
      exact .self u (self_new u (by omega))
end
end Go.Proofs.YthchnabhbpdfgaaDoor
end

section
namespace Go.Proofs.YthchnabhbpdfgaaDoor
open Go.RowKit Go.Shelf Go.Sort Stab

theorem walk_mono {σ : List Ty} : ∀ (k : Nat) (t r : Ty), walkP σ k t = some r → walkP σ (k + 1) t = some r
  | 0, _, _, h => by cases h
  | k + 1, t, r, h => by
    rw [walkP] at h ⊢
    split
    · rename_i hc
      rw [if_pos hc] at h
      split
      · rename_i hx
        rw [hx] at h; cases h
      · rename_i x hx
        rw [hx] at h
        dsimp only at h
        split
        · rename_i h2
          rw [if_pos h2] at h; exact h
        · rename_i h2
          rw [if_neg h2] at h
          exact walk_mono k x r h
    · rename_i hc
      rw [if_neg hc] at h; exact h
/-- Apply ends at a type, with this result. -/
def Ends (σ : List Ty) (t r : Ty) : Prop := ∃ K, ∀ k, K ≤ k → ∀ q, K ≤ q → applyP σ k q t = some r
theorem ends_one {σ : List Ty} {t r s : Ty} (h : Ends σ t r) (h' : Ends σ t s) : r = s := by
  obtain ⟨K, hK⟩ := h
  obtain ⟨K', hK'⟩ := h'
  have h1 := hK (K + K') (by omega) (K + K') (by omega)
  have h2 := hK' (K + K') (by omega) (K + K') (by omega)
  rw [h1] at h2
  exact Option.some.inj h2
theorem ends_list {σ : List Ty} {f : Ty → Ty} : ∀ l : List Ty, (∀ a ∈ l, Ends σ a (f a)) → ∃ K, ∀ k, K ≤ k → ∀ q, K ≤ q → mapO (applyP σ k q) l = some (l.map f)
  | [], _ => ⟨0, fun _ _ _ _ => rfl⟩
  | a :: r, h => by
    obtain ⟨K1, h1⟩ := h a List.mem_cons_self
    obtain ⟨K2, h2⟩ := ends_list r (fun b hb => h b (List.mem_cons_of_mem _ hb))
    exact ⟨max K1 K2, fun k hk q hq => mapO_cons.2 ⟨_, _, h1 k (by omega) q (by omega), h2 k (by omega) q (by omega), rfl⟩⟩
theorem ends_not {σ : List Ty} {f : Ty → Ty} {t : Ty} (h0 : t.kind ≠ 0) (h : ∀ a ∈ t.args, Ends σ a (f a)) : Ends σ t (.mk t.kind t.name t.var (t.args.map f)) := by
  obtain ⟨K, hK⟩ := ends_list t.args h
  refine ⟨K + 1, fun k hk q hq => ?_⟩
  obtain ⟨q, rfl⟩ : ∃ q', q = q' + 1 := ⟨q - 1, by omega⟩
  obtain ⟨k', rfl⟩ : ∃ q', k = q' + 1 := ⟨k - 1, by omega⟩
  rw [applyP, walk_not σ k' h0]
  dsimp only
  split
  · rename_i hl
    have : t.args = [] := List.eq_nil_of_length_eq_zero hl
    rw [this, List.map_nil, ← this]; cases t; rfl
  · rw [hK _ (by omega) q (by omega)]
theorem ends_to {σ : List Ty} {t x r : Ty} (h0 : t.kind = 0) (hv : 0 ≤ t.var) (hx : σ[t.var.toNat]? = some x) (hs : selfB σ t.var.toNat = false) (h : Ends σ x r) : Ends σ t r := by
  obtain ⟨K, hK⟩ := h
  refine ⟨K + 1, fun k hk q hq => ?_⟩
  obtain ⟨q, rfl⟩ : ∃ q', q = q' + 1 := ⟨q - 1, by omega⟩
  obtain ⟨k, rfl⟩ : ∃ q', k = q' + 1 := ⟨k - 1, by omega⟩
  have hlt : t.var.toNat < σ.length := by
    rcases Nat.lt_or_ge t.var.toNat σ.length with h | h
    · exact h
    · rw [List.getElem?_eq_none h] at hx; cases hx
  have hw : walkP σ (k + 1) t = walkP σ k x := by
    rw [walkP, if_pos ⟨h0, by omega⟩, hx]
    dsimp only
    rw [if_neg (fun h => by
      have : selfB σ t.var.toNat = true := selfB_iff.2 ⟨x, hx, h.1, by omega⟩
      rw [hs] at this; cases this)]
  have h1 := hK k (by omega) (q + 1) (by omega)
  have h2 := hK (k + 1) (by omega) (q + 1) (by omega)
  rw [applyP] at h1
  cases hw2 : walkP σ k x with
  | none => rw [hw2] at h1; cases h1
  | some w =>
    rw [applyP, walk_mono k x w hw2] at h2
    rw [applyP, hw, hw2]
    exact h2
theorem ends_leaf {σ : List Ty} {t : Ty} (hw : t.Wf) (h0 : t.kind = 0) (hs : selfB σ t.var.toNat = true ∨ σ[t.var.toNat]? = none) : Ends σ t t := by
  have hv := hw.varOk h0
  refine ⟨1, fun k hk q hq => ?_⟩
  obtain ⟨q, rfl⟩ : ∃ q', q = q' + 1 := ⟨q - 1, by omega⟩
  obtain ⟨k, rfl⟩ : ∃ q', k = q' + 1 := ⟨k - 1, by omega⟩
  have hwk : walkP σ (k + 1) t = some t := by
    rw [walkP]
    split
    · rename_i hc
      rcases hs with hs | hs
      · obtain ⟨x, hx, h1, h2⟩ := selfB_iff.1 hs
        rw [hx]
        dsimp only
        rw [if_pos ⟨h1, by omega⟩]
      · rw [List.getElem?_eq_none_iff] at hs; omega
    · rfl
  rw [applyP, hwk]
  dsimp only
  rw [if_pos (by rw [hw.leaf (.inl h0)]; rfl)]
theorem apply_wf {σ : List Ty} (hσ : ∀ x ∈ σ, x.Wf) (k : Nat) : ∀ (q : Nat) (t r : Ty), t.Wf → applyP σ k q t = some r → r.Wf
  | 0, _, _, _, h => by cases h
  | q + 1, t, r, hw, h => by
    rw [applyP] at h
    cases hc : walkP σ k t with
    | none => rw [hc] at h; cases h
    | some cur =>
      rw [hc] at h
      dsimp only at h
      have hwc := (walk_fine (N := max (nodes t) (σ.foldr (fun x n => max (nodes x) n) 0)) (fun x hx => ⟨hσ x hx, by
        have : ∀ l : List Ty, x ∈ l → nodes x ≤ l.foldr (fun x n => max (nodes x) n) 0 := by
          intro l
          induction l with
          | nil => intro h; cases h
          | cons y l ih =>
            intro h
            rw [List.foldr_cons]
            rcases List.mem_cons.1 h with rfl | h
            · omega
            · have := ih h; omega
        have := this σ hx; omega⟩) k t cur hw (by omega) hc).1
      split at h
      · rw [← Option.some.inj h]; exact hwc
      · cases hm : mapO (applyP σ k q) cur.args with
        | none => rw [hm] at h; cases h
        | some l =>
          rw [hm] at h
          have e := Option.some.inj h
          rw [← e]
          have hl := mapO_len hm
          have hin : ∀ b ∈ l, b.Wf := fun b hb => by
            obtain ⟨i, hi, hbi⟩ := List.mem_iff_getElem.1 hb
            obtain ⟨y, h1, h2⟩ := mapO_at hm i (by omega)
            rw [List.getElem?_eq_getElem hi] at h2
            rw [← hbi, Option.some.inj h2]
            exact apply_wf hσ k q _ y (hwc.arg (List.getElem_mem _)) h1
          cases hwc with
          | mk k n v l' hk hs hv hn h0 hl' => exact .mk k n v l hk (fun h => by rw [hl]; exact hs h) hv hn h0 hin
theorem ends_total {σ : List Ty} (hw : ∀ x ∈ σ, x.Wf) (t : Ty) (ht : AcyT σ t) (hwt : t.Wf) : ∃ r, Ends σ t r := by
  refine acy_ind (P := fun t => t.Wf → ∃ r, Ends σ t r) (fun t h0 ih hwt => ?_) (fun t h0 hs hwt => ⟨t, ends_leaf hwt h0 hs⟩) (fun t x h0 hs hx ih hwt => ?_) t ht hwt
  · have : ∀ a : Ty, ∃ r, a ∈ t.args → Ends σ a r := fun a => by
      by_cases ha : a ∈ t.args
      · exact (ih a ha (hwt.arg ha)).imp fun r h _ => h
      · exact ⟨a, fun h => absurd h ha⟩
    exact ⟨_, ends_not (f := fun a => Classical.choose (this a)) h0 fun a ha => Classical.choose_spec (this a) ha⟩
  · obtain ⟨r, hr⟩ := ih (hw x (List.mem_of_getElem? hx))
    exact ⟨r, ends_to h0 (hwt.varOk h0) hx hs hr⟩
open Classical in
/-- What Apply makes of a variable. -/
noncomputable def appV (σ : List Ty) (v : Int) : Ty := if h : ∃ r, Ends σ (varT v) r then Classical.choose h else varT (if 0 ≤ v then v else 0)
theorem varT_wf {v : Int} (h : 0 ≤ v) : (varT v).Wf := .mk 0 ⟨#[]⟩ v [] (by decide) (fun _ => rfl) (fun h => absurd rfl h) (fun _ _ => by simp [ByteArray.toList_eq]) (fun _ => h) (fun a ha => by cases ha)
theorem appV_ends {σ : List Ty} {v : Int} {r : Ty} (h : Ends σ (varT v) r) : appV σ v = r := by
  unfold appV
  rw [dif_pos ⟨r, h⟩]
  exact ends_one (Classical.choose_spec (⟨r, h⟩ : ∃ r, Ends σ (varT v) r)) h
theorem ends_sub {σ : List Ty} (t : Ty) (hw : t.Wf) (hv : ∀ v ∈ freeP t, ∃ r, Ends σ (varT v) r) : Ends σ t (subT (appV σ) t) := by
  refine ty_ind (P := fun t => t.Wf → (∀ v ∈ freeP t, ∃ r, Ends σ (varT v) r) → Ends σ t (subT (appV σ) t)) (fun t ih hw hv => ?_) t hw hv
  by_cases h0 : t.kind = 0
  · obtain ⟨r, hr⟩ := hv t.var (by rw [freeP_var h0]; exact List.mem_singleton.2 rfl)
    rw [subT_var h0, appV_ends hr]
    rw [← wf_var hw h0] at hr
    exact hr
  · rw [subT_not h0]
    exact ends_not h0 fun a ha => ih a ha (hw.arg ha) fun v hv' => hv v ((freeP_args h0).2 ⟨a, ha, hv'⟩)
theorem appV_wf {σ : List Ty} (hσ : ∀ x ∈ σ, x.Wf) (v : Int) : (appV σ v).Wf := by
  by_cases h : ∃ r, Ends σ (varT v) r
  · obtain ⟨r, hr⟩ := h
    rw [appV_ends hr]
    by_cases h0 : 0 ≤ v
    · obtain ⟨K, hK⟩ := hr
      exact apply_wf hσ K K _ r (varT_wf h0) (hK K (Nat.le_refl _) K (Nat.le_refl _))
    · -- a variable below zero leads on, or stays
      obtain ⟨K, hK⟩ := hr
      have h1 := hK (K + 1) (by omega) (K + 1) (by omega)
      rw [applyP, walkP] at h1
      split at h1
      · cases h1
      · rename_i cur hc
        split at hc
        · split at hc
          · cases hc
          · rename_i x hx
            split at hc
            · rename_i hxx
              have := (hσ x (List.mem_of_getElem? hx)).varOk hxx.1
              have h2 : x.var = v := hxx.2
              omega
            · have hxw := hσ x (List.mem_of_getElem? hx)
              have h3 := apply_wf hσ (K + 1) (K + 1) x r hxw (by rw [applyP, walk_mono K x cur hc]; exact h1)
              exact h3
        · rename_i hcc
          have hcc2 : ¬ v < (σ.length : Int) := fun h => hcc ⟨rfl, h⟩
          omega
  · unfold appV
    rw [dif_neg h]
    split
    · exact varT_wf (by assumption)
    · exact varT_wf (Int.le_refl _)
theorem free_sub (X : Int → Ty) (w : Int) (t : Ty) : w ∈ freeP (subT X t) ↔ ∃ v ∈ freeP t, w ∈ freeP (X v) := by
  refine ty_ind (P := fun t => w ∈ freeP (subT X t) ↔ ∃ v ∈ freeP t, w ∈ freeP (X v)) (fun t ih => ?_) t
  by_cases h0 : t.kind = 0
  · rw [subT_var h0, freeP_var h0]
    simp
  · rw [subT_not h0]
    have h1 := freeP_args (t := Ty.mk t.kind t.name t.var (t.args.map (subT X))) h0 (v := w)
    rw [h1]
    constructor
    · rintro ⟨b, hb, hw⟩
      obtain ⟨a, ha, rfl⟩ := List.mem_map.1 hb
      obtain ⟨v, hv, hw2⟩ := (ih a ha).1 hw
      exact ⟨v, (freeP_args h0).2 ⟨a, ha, hv⟩, hw2⟩
    · rintro ⟨v, hv, hw⟩
      obtain ⟨a, ha, hva⟩ := (freeP_args h0).1 hv
      exact ⟨subT X a, List.mem_map.2 ⟨a, ha, rfl⟩, (ih a ha).2 ⟨v, hva, hw⟩⟩
/-- Equal but for the order of different labels: kept by replacing variables by such types. -/
theorem norm_congr {X Y : Int → Ty} (hX : ∀ v, (X v).Wf) (hY : ∀ v, (Y v).Wf) (t : Ty) (hw : t.Wf) (hv : ∀ v ∈ freeP t, normP (X v) = normP (Y v)) : normP (subT X t) = normP (subT Y t) := by
  refine ty_ind (P := fun t => t.Wf → (∀ v ∈ freeP t, normP (X v) = normP (Y v)) → normP (subT X t) = normP (subT Y t)) (fun t ih hw hv => ?_) t hw hv
  by_cases h0 : t.kind = 0
  · rw [subT_var h0, subT_var h0]
    exact hv _ (by rw [freeP_var h0]; exact List.mem_singleton.2 rfl)
  · have hva : ∀ a ∈ t.args, ∀ v ∈ freeP a, normP (X v) = normP (Y v) := fun a ha v h => hv v ((freeP_args h0).2 ⟨a, ha, h⟩)
    refine (eqv_iff (subT_wf hX t hw).nok (subT_wf hY t hw).nok).2 ?_
    rw [subT_not h0, subT_not h0]
    by_cases h5 : t.kind = 5
    · obtain ⟨a, r, e⟩ := hw.two h5
      have ham : a ∈ t.args := by rw [e]; simp
      have hrm : r ∈ t.args := by rw [e]; simp
      have ha := ih a ham (hw.arg ham) (hva a ham)
      have hr := (eqv_iff (subT_wf hX r (hw.arg hrm)).nok (subT_wf hY r (hw.arg hrm)).nok).1 (ih r hrm (hw.arg hrm) (hva r hrm))
      rw [e]
      rw [rowP_ext (t := .mk t.kind t.name t.var (List.map (subT X) [a, r])) (a := subT X a) (r := subT X r) h5 rfl, rowP_ext (t := .mk t.kind t.name t.var (List.map (subT Y) [a, r])) (a := subT Y a) (r := subT Y r) h5 rfl]
      refine ⟨fun n => ?_, hr.2⟩
      dsimp only
      rw [fl_cons, fl_cons, ha, hr.1 n]
      rfl
    · rw [rowP_not (t := .mk t.kind t.name t.var (t.args.map (subT X))) h5, rowP_not (t := .mk t.kind t.name t.var (t.args.map (subT Y))) h5]
      refine ⟨fun _ => rfl, ?_⟩
      show Ty.mk t.kind t.name t.var ((t.args.map (subT X)).map normP) = Ty.mk t.kind t.name t.var ((t.args.map (subT Y)).map normP)
      rw [List.map_map, List.map_map]
      congr 1
      exact List.map_congr_left fun a ha => ih a ha (hw.arg ha) (hva a ha)
end Go.Proofs.YthchnabhbpdfgaaDoor
end

section
namespace Go.Proofs.YthchnabhbpdfgaaDoor
open Go.RowKit Go.Shelf Go.Sort Stab

section
variable {σ τ : List Ty}
/-- What Apply returns. -/
noncomputable def ap (σ : List Ty) (t : Ty) : Ty := subT (appV σ) t
theorem Gd.acyV (h : Gd σ) {v : Int} (hv : 0 ≤ v ∧ v < (σ.length : Int)) : AcyT σ (varT v) := fun w hw => by
  rw [freeP_var rfl, List.mem_singleton] at hw
  have hw : w = v := hw
  subst hw
  exact h.acy _ (by omega)
theorem Gd.acyT (h : Gd σ) {t : Ty} (hv : VIn σ t) : AcyT σ t := fun w hw => h.acy _ (by have := hv w hw; omega)
theorem Gd.endsV (h : Gd σ) {v : Int} (hv : 0 ≤ v ∧ v < (σ.length : Int)) : ∃ r, Ends σ (varT v) r := ends_total h.wf (varT v) (h.acyV hv) (varT_wf hv.1)
theorem Gd.ends (h : Gd σ) {t : Ty} (hw : t.Wf) (hv : VIn σ t) : Ends σ t (ap σ t) := ends_sub t hw fun v h2 => h.endsV (hv v h2)
theorem Gd.apwf (h : Gd σ) {t : Ty} (hw : t.Wf) : (ap σ t).Wf := subT_wf (appV_wf h.wf) t hw
theorem ap_not {t : Ty} (h0 : t.kind ≠ 0) : ap σ t = .mk t.kind t.name t.var (t.args.map (ap σ)) := subT_not h0
theorem ap_var {t : Ty} (h0 : t.kind = 0) : ap σ t = appV σ t.var := subT_var h0
theorem Gd.appV_self (_ : Gd σ) {v : Nat} (hs : selfB σ v = true) : appV σ (v : Int) = varT (v : Int) := by
  refine appV_ends (ends_leaf (varT_wf (by omega)) rfl (.inl ?_))
  show selfB σ ((v : Int).toNat) = true
  rw [Int.toNat_natCast]; exact hs
theorem Gd.appV_to (h : Gd σ) {v : Nat} {x : Ty} (hx : σ[v]? = some x) (hs : selfB σ v = false) : appV σ (v : Int) = ap σ x := by
  refine appV_ends (ends_to rfl (by show (0 : Int) ≤ (v : Int); omega) ?_ ?_ (h.ends (h.wf x (List.mem_of_getElem? hx)) (fun w hw => h.inn x (List.mem_of_getElem? hx) w hw)))
  · show σ[((v : Int)).toNat]? = some x
    rw [Int.toNat_natCast]; exact hx
  · show selfB σ ((v : Int).toNat) = false
    rw [Int.toNat_natCast]; exact hs
/-- An unbound variable of the substitution. -/
def Open (σ : List Ty) (w : Int) : Prop := 0 ≤ w ∧ w < (σ.length : Int) ∧ selfB σ w.toNat = true
theorem Gd.free (h : Gd σ) (t : Ty) (hv : VIn σ t) : ∀ w ∈ freeP (ap σ t), Open σ w := by
  refine acy_ind (P := fun t => VIn σ t → ∀ w ∈ freeP (ap σ t), Open σ w) (fun t h0 ih hv w hw => ?_) (fun t h0 hs hv w hw => ?_) (fun t x h0 hs hx ih hv w hw => ?_) t (h.acyT hv) hv
  · rw [ap_not h0] at hw
    obtain ⟨b, hb, hwb⟩ := (freeP_args (t := Ty.mk t.kind t.name t.var (t.args.map (ap σ))) h0).1 hw
    obtain ⟨a, ha, rfl⟩ := List.mem_map.1 hb
    exact ih a ha (hv.arg h0 ha) w hwb
  · have hvt := hv t.var (by rw [freeP_var h0]; exact List.mem_singleton.2 rfl)
    rcases hs with hs | hs
    · have e := h.appV_self hs
      rw [show ((t.var.toNat : Nat) : Int) = t.var by omega] at e
      rw [ap_var h0, e, freeP_var rfl, List.mem_singleton] at hw
      have hw : w = t.var := hw
      subst hw
      exact ⟨hvt.1, hvt.2, hs⟩
    · rw [List.getElem?_eq_none_iff] at hs; omega
  · have hvt := hv t.var (by rw [freeP_var h0]; exact List.mem_singleton.2 rfl)
    have e := h.appV_to hx hs
    rw [show ((t.var.toNat : Nat) : Int) = t.var by omega] at e
    rw [ap_var h0, e] at hw
    exact ih (fun u hu => h.inn x (List.mem_of_getElem? hx) u hu) w hw
theorem subT_subT (X Y : Int → Ty) (t : Ty) : subT X (subT Y t) = subT (fun v => subT X (Y v)) t := by
  refine ty_ind (P := fun t => subT X (subT Y t) = subT (fun v => subT X (Y v)) t) (fun t ih => ?_) t
  by_cases h0 : t.kind = 0
  · rw [subT_var h0, subT_var h0]
  · rw [subT_not h0, subT_not h0, subT_not (t := .mk t.kind t.name t.var (t.args.map (subT Y))) h0]
    show Ty.mk t.kind t.name t.var ((t.args.map (subT Y)).map (subT X)) = _
    rw [List.map_map]
    congr 1
    exact List.map_congr_left fun a ha => ih a ha
theorem subT_same {X Y : Int → Ty} (t : Ty) (h : ∀ v ∈ freeP t, X v = Y v) : subT X t = subT Y t := by
  refine ty_ind (P := fun t => (∀ v ∈ freeP t, X v = Y v) → subT X t = subT Y t) (fun t ih h => ?_) t h
  by_cases h0 : t.kind = 0
  · rw [subT_var h0, subT_var h0]
    exact h _ (by rw [freeP_var h0]; exact List.mem_singleton.2 rfl)
  · rw [subT_not h0, subT_not h0]
    congr 1
    exact List.map_congr_left fun a ha => ih a ha fun v hv => h v ((freeP_args h0).2 ⟨a, ha, hv⟩)
/-- What is bound stays bound. -/
structure Keep (σ τ : List Ty) : Prop where
  len : σ.length ≤ τ.length
  bound : ∀ v, v < σ.length → selfB σ v = false → τ[v]? = σ[v]?
theorem Keep.refl (σ : List Ty) : Keep σ σ := ⟨Nat.le_refl _, fun _ _ _ => rfl⟩
theorem Keep.self (h : Keep σ τ) {v : Nat} (hv : v < σ.length) (hs : selfB σ v = false) : selfB τ v = false := by
  unfold selfB at hs ⊢
  rw [h.bound v hv (by unfold selfB; exact hs)]; exact hs
theorem Keep.trans {υ : List Ty} (h : Keep σ τ) (k : Keep τ υ) : Keep σ υ :=
  ⟨Nat.le_trans h.len k.len, fun v hv hs => (k.bound v (Nat.lt_of_lt_of_le hv h.len) (h.self hv hs)).trans (h.bound v hv hs)⟩
/-- A later substitution does again what an earlier one did. -/
theorem keep_ap (h : Gd σ) (h' : Gd τ) (k : Keep σ τ) (t : Ty) (hv : VIn σ t) : ap τ (ap σ t) = ap τ t := by
  refine acy_ind (P := fun t => VIn σ t → ap τ (ap σ t) = ap τ t) (fun t h0 ih hv => ?_) (fun t h0 hs hv => ?_) (fun t x h0 hs hx ih hv => ?_) t (h.acyT hv) hv
  · rw [ap_not h0, ap_not (t := .mk t.kind t.name t.var (t.args.map (ap σ))) h0, ap_not h0]
    show Ty.mk t.kind t.name t.var ((t.args.map (ap σ)).map (ap τ)) = _
    rw [List.map_map]
    congr 1
    exact List.map_congr_left fun a ha => ih a ha (hv.arg h0 ha)
  · have hvt := hv t.var (by rw [freeP_var h0]; exact List.mem_singleton.2 rfl)
    rcases hs with hs | hs
    · have e := h.appV_self hs
      rw [show ((t.var.toNat : Nat) : Int) = t.var by omega] at e
      rw [ap_var h0, e, ap_var (σ := τ) h0, ap_var (σ := τ) rfl]
      rfl
    · rw [List.getElem?_eq_none_iff] at hs; omega
  · have hvt := hv t.var (by rw [freeP_var h0]; exact List.mem_singleton.2 rfl)
    have hl : t.var.toNat < σ.length := by omega
    have e := h.appV_to hx hs
    have e' := h'.appV_to ((k.bound _ hl hs).trans hx) (k.self hl hs)
    rw [show ((t.var.toNat : Nat) : Int) = t.var by omega] at e e'
    rw [ap_var h0, e, ap_var (σ := τ) h0, e']
    exact ih (fun u hu => h.inn x (List.mem_of_getElem? hx) u hu)
end
end Go.Proofs.YthchnabhbpdfgaaDoor
end

section
namespace Go.Proofs.YthchnabhbpdfgaaDoor
open Go.RowKit Go.Shelf Go.Sort Stab

section
variable {σ τ : List Ty}
theorem walk_ap (h : Gd σ) : ∀ (k : Nat) (t r : Ty), VIn σ t → walkP σ k t = some r → ap σ r = ap σ t ∧ VIn σ r ∧ (r.kind = 0 → Open σ r.var)
  | 0, _, _, _, e => by cases e
  | k + 1, t, r, hv, e => by
    rw [walkP] at e
    split at e
    · rename_i h0
      have hvt := hv t.var (by rw [freeP_var h0.1]; exact List.mem_singleton.2 rfl)
      split at e
      · cases e
      · rename_i x hx
        split at e
        · rename_i hs
          cases e
          exact ⟨rfl, hv, fun _ => ⟨hvt.1, hvt.2, selfB_iff.2 ⟨x, hx, hs.1, by rw [hs.2]; omega⟩⟩⟩
        · rename_i hs
          have hsb : selfB σ t.var.toNat = false := by
            cases hb : selfB σ t.var.toNat with
            | false => rfl
            | true =>
              obtain ⟨y, hy, h1, h2⟩ := selfB_iff.1 hb
              rw [hx] at hy; cases hy
              exact absurd ⟨h1, by rw [h2]; omega⟩ hs
          have ea := h.appV_to hx hsb
          rw [show ((t.var.toNat : Nat) : Int) = t.var by omega] at ea
          obtain ⟨h1, h2, h3⟩ := walk_ap h k x r (fun w hw => h.inn x (List.mem_of_getElem? hx) w hw) e
          exact ⟨by rw [h1, ap_var h0.1, ea], h2, h3⟩
    · rename_i h0
      cases e
      refine ⟨rfl, hv, fun hk => ?_⟩
      have hvt := hv t.var (by rw [freeP_var hk]; exact List.mem_singleton.2 rfl)
      exact absurd ⟨hk, hvt.2⟩ h0
theorem walk_total (h : Gd σ) (t : Ty) (hv : VIn σ t) : ∃ K, ∃ r, ∀ k, K ≤ k → walkP σ k t = some r := by
  have up : ∀ (K : Nat) (t r : Ty), walkP σ K t = some r → ∀ k, K ≤ k → walkP σ k t = some r := fun K t r h0 k hk => by
    induction hk with
    | refl => exact h0
    | step _ ih => exact walk_mono _ _ _ ih
  refine acy_ind (P := fun t => VIn σ t → ∃ K, ∃ r, ∀ k, K ≤ k → walkP σ k t = some r) (fun t h0 _ _ => ⟨1, t, up 1 t t ?_⟩) (fun t h0 hs hv => ⟨1, t, up 1 t t ?_⟩) (fun t x h0 hs hx ih hv => ?_) t (h.acyT hv) hv
  · rw [walkP, if_neg (fun h2 => h0 h2.1)]
  · have hvt := hv t.var (by rw [freeP_var h0]; exact List.mem_singleton.2 rfl)
    rcases hs with hs | hs
    · obtain ⟨x, hx, h1, h2⟩ := selfB_iff.1 hs
      rw [walkP, if_pos ⟨h0, hvt.2⟩, hx]
      dsimp only
      rw [if_pos ⟨h1, by omega⟩]
    · rw [List.getElem?_eq_none_iff] at hs; omega
  · have hvt := hv t.var (by rw [freeP_var h0]; exact List.mem_singleton.2 rfl)
    obtain ⟨K, r, hr⟩ := ih (fun w hw => h.inn x (List.mem_of_getElem? hx) w hw)
    refine ⟨K + 1, r, up (K + 1) t r ?_⟩
    rw [walkP, if_pos ⟨h0, hvt.2⟩, hx]
    dsimp only
    rw [if_neg (fun h2 => by
      have : selfB σ t.var.toNat = true := selfB_iff.2 ⟨x, hx, h2.1, by rw [h2.2]; omega⟩
      rw [hs] at this; cases this)]
    exact hr K (Nat.le_refl _)
end
end Go.Proofs.YthchnabhbpdfgaaDoor
end

section
namespace Go.Proofs.YthchnabhbpdfgaaDoor
open Go.RowKit Go.Shelf Go.Sort Stab

theorem subT_ext (X : Int → Ty) (l : ByteArray) (x r : Ty) : subT X (extT l x r) = extT l (subT X x) (subT X r) := by
  rw [subT_not (t := extT l x r) (by show (5 : Int) ≠ 0; decide)]; rfl
theorem rowP_extT (l : ByteArray) (x r : Ty) : rowP (extT l x r) = ((l, normP x) :: (rowP r).1, (rowP r).2) := rowP_ext (t := extT l x r) rfl rfl
theorem rowP_sub_fold (X : Int → Ty) : ∀ (L : List (ByteArray × Ty)) (e : Ty), rowP (subT X (foldX L e)) = (L.map (fun x => (x.1, normP (subT X x.2))) ++ (rowP (subT X e)).1, (rowP (subT X e)).2)
  | [], e => rfl
  | x :: L, e => by
    show rowP (subT X (extT x.1 x.2 (foldX L e))) = _
    rw [subT_ext, rowP_extT, rowP_sub_fold X L e]
    rfl
theorem fl_map (f : ByteArray × Ty → Ty) (n : ByteArray) (L : List (ByteArray × Ty)) : fl n (L.map fun x => (x.1, f x)) = (fl n L).map fun x => (x.1, f x) := by
  unfold fl
  rw [List.filter_map]
  rfl
theorem fl_append (n : ByteArray) (L M : List (ByteArray × Ty)) : fl n (L ++ M) = fl n L ++ fl n M := by unfold fl; rw [List.filter_append]
/-- What is replaced in a type comes to the same as what is replaced in its normal form. -/
theorem norm_sub1 {X : Int → Ty} (t : Ty) : t.Wf → (∀ n, fl n (rowP (subT X t)).1 = fl n (rowP (subT X (normP t))).1) ∧ (rowP (subT X t)).2 = (rowP (subT X (normP t))).2 ∧ normP (subT X t) = normP (subT X (normP t)) := by
  refine ty_ind (P := fun t => t.Wf → (∀ n, fl n (rowP (subT X t)).1 = fl n (rowP (subT X (normP t))).1) ∧ (rowP (subT X t)).2 = (rowP (subT X (normP t))).2 ∧ normP (subT X t) = normP (subT X (normP t))) (fun t ih hw => ?_) t
  by_cases h5 : t.kind = 5
  · obtain ⟨a, r, e⟩ := hw.two h5
    obtain ⟨_, _, a3⟩ := ih a (by rw [e]; simp) (hw.arg (by rw [e]; simp))
    obtain ⟨r1, r2, _⟩ := ih r (by rw [e]; simp) (hw.arg (by rw [e]; simp))
    have hrow : rowP t = ((t.name, normP a) :: (rowP r).1, (rowP r).2) := rowP_ext h5 e
    have hnt : normP t = foldX (isort ltL ((t.name, normP a) :: (rowP r).1)) (rowP r).2 := by unfold normP fin; rw [hrow]; rfl
    have hnr : normP r = foldX (isort ltL (rowP r).1) (rowP r).2 := rfl
    have hs : rowP (subT X t) = ((t.name, normP (subT X a)) :: (rowP (subT X r)).1, (rowP (subT X r)).2) := by
      rw [subT_not (by rw [h5]; decide)]
      exact rowP_ext (t := Ty.mk t.kind t.name t.var (t.args.map (subT X))) h5 (by show List.map (subT X) t.args = _; rw [e]; rfl)
    rw [hnr, rowP_sub_fold] at r1 r2
    have k1 : ∀ n, fl n (rowP (subT X t)).1 = fl n (rowP (subT X (normP t))).1 := fun n => by
      have := r1 n
      dsimp only at this
      rw [fl_append, fl_map (fun x => normP (subT X x.2)), fl_isort] at this
      rw [hs, hnt, rowP_sub_fold]
      dsimp only
      rw [fl_append, fl_map (fun x => normP (subT X x.2)), fl_isort, fl_cons, fl_cons, this, a3]
      by_cases hn : t.name = n
      · rw [if_pos hn, if_pos hn]; rfl
      · rw [if_neg hn, if_neg hn]
    have k2 : (rowP (subT X t)).2 = (rowP (subT X (normP t))).2 := by rw [hs, hnt, rowP_sub_fold]; exact r2
    refine ⟨k1, k2, ?_⟩
    unfold normP fin
    rw [k2, isort_fl.2 k1]
    rfl
  · have hnt : normP t = .mk t.kind t.name t.var (t.args.map normP) := by unfold normP fin; rw [rowP_not h5]; rfl
    by_cases h0 : t.kind = 0
    · have hl := hw.leaf (.inl h0)
      have : normP t = t := by rw [hnt, hl]; cases t; simp only [Ty.args] at hl; subst hl; rfl
      rw [this]
      exact ⟨fun _ => rfl, rfl, rfl⟩
    · have hs : subT X (normP t) = .mk t.kind t.name t.var ((t.args.map normP).map (subT X)) := by rw [hnt]; exact subT_not (t := .mk t.kind t.name t.var (t.args.map normP)) h0
      have e1 : rowP (subT X t) = rowP (subT X (normP t)) := by
        rw [hs, subT_not h0, rowP_not (t := .mk t.kind t.name t.var (t.args.map (subT X))) h5, rowP_not (t := .mk t.kind t.name t.var ((t.args.map normP).map (subT X))) h5]
        show ([], Ty.mk t.kind t.name t.var ((t.args.map (subT X)).map normP)) = ([], Ty.mk t.kind t.name t.var (((t.args.map normP).map (subT X)).map normP))
        rw [List.map_map, List.map_map, List.map_map]
        congr 2
        exact List.map_congr_left fun a ha => (ih a ha (hw.arg ha)).2.2
      exact ⟨fun n => by rw [e1], by rw [e1], by unfold normP; rw [e1]; rfl⟩
/-- Types that are equal but for the order of different labels stay so. -/
theorem norm_sub {X : Int → Ty} {t u : Ty} (ht : t.Wf) (hu : u.Wf) (h : normP t = normP u) : normP (subT X t) = normP (subT X u) := by
  rw [(norm_sub1 t ht).2.2, (norm_sub1 u hu).2.2, h]
end Go.Proofs.YthchnabhbpdfgaaDoor
end

section
namespace Go.Proofs.YthchnabhbpdfgaaDoor
open Go.RowKit Go.Shelf Go.Sort Stab

section
variable {σ : List Ty}
theorem walk_up {k : Nat} {t r : Ty} (h : walkP σ k t = some r) {k' : Nat} (hk : k ≤ k') : walkP σ k' t = some r := by
  induction hk with
  | refl => exact h
  | step _ ih => exact walk_mono _ _ _ ih
theorem occL_mono {f g : List Bool → Ty → Option (Bool × List Bool)} (hfg : ∀ s a r, f s a = some r → g s a = some r) : ∀ (l : List Ty) (s : List Bool) (r : Bool × List Bool), occL f l s = some r → occL g l s = some r
  | [], _, _, h => h
  | a :: l, s, r, h => by
    rw [occL] at h ⊢
    split at h
    · cases h
    · rename_i s' h1
      rw [hfg _ _ _ h1]; exact h
    · rename_i s' h1
      rw [hfg _ _ _ h1]; exact occL_mono hfg l s' r h
theorem occ_mono (v : Int) : ∀ (k : Nat) (s : List Bool) (t : Ty) (r : Bool × List Bool), occP σ v k s t = some r → occP σ v (k + 1) s t = some r
  | 0, _, _, _, h => by cases h
  | k + 1, s, t, r, h => by
    rw [occP] at h ⊢
    by_cases h0 : t.kind = 0
    · rw [if_pos h0] at h ⊢
      split at h
      · rename_i h1
        rw [if_pos h1]; exact h
      · rename_i h1
        rw [if_neg h1]
        cases hx : σ[t.var.toNat]? with
        | none => rw [hx] at h; cases h
        | some x =>
          rw [hx] at h
          dsimp only at h ⊢
          split at h
          · rename_i h2
            rw [if_pos h2]; exact occ_mono v k _ _ _ h
          · rename_i h2
            rw [if_neg h2]; exact h
    · rw [if_neg h0] at h ⊢
      exact occL_mono (fun s a r hr => occ_mono v k s a r hr) _ _ _ h
theorem occ_up (v : Int) {k : Nat} {s : List Bool} {t : Ty} {r : Bool × List Bool} (h : occP σ v k s t = some r) {k' : Nat} (hk : k ≤ k') : occP σ v k' s t = some r := by
  induction hk with
  | refl => exact h
  | step _ ih => exact occ_mono v _ _ _ _ ih
theorem occL_total {f : List Bool → Ty → Option (Bool × List Bool)} : ∀ (l : List Ty) (s : List Bool), (∀ a ∈ l, ∀ s, ∃ r, f s a = some r) → ∃ r, occL f l s = some r
  | [], _, _ => ⟨_, rfl⟩
  | a :: l, s, h => by
    obtain ⟨⟨b, s1⟩, h1⟩ := h a List.mem_cons_self s
    rw [occL, h1]
    cases b
    · exact occL_total l s1 (fun b hb => h b (List.mem_cons_of_mem _ hb))
    · exact ⟨_, rfl⟩
theorem occ_total (h : Gd σ) (v : Int) (t : Ty) (hv : VIn σ t) : ∃ K, ∀ k, K ≤ k → ∀ s, ∃ r, occP σ v k s t = some r := by
  refine acy_ind (P := fun t => VIn σ t → ∃ K, ∀ k, K ≤ k → ∀ s, ∃ r, occP σ v k s t = some r) (fun t h0 ih hv => ?_) (fun t h0 hs hv => ?_) (fun t x h0 hs hx ih hv => ?_) t (h.acyT hv) hv
  · obtain ⟨K, hK⟩ := list_bound (P := fun a k => ∀ s, ∃ r, occP σ v k s a = some r) t.args (fun a ha => ih a ha (hv.arg h0 ha))
    refine ⟨K + 1, fun k hk s => ?_⟩
    obtain ⟨k, rfl⟩ : ∃ k', k = k' + 1 := ⟨k - 1, by omega⟩
    rw [occP, if_neg h0]
    exact occL_total _ _ (fun a ha => hK k (by omega) a ha)
  · have hvt := hv t.var (by rw [freeP_var h0]; exact List.mem_singleton.2 rfl)
    refine ⟨1, fun k hk s => ?_⟩
    obtain ⟨k, rfl⟩ : ∃ k', k = k' + 1 := ⟨k - 1, by omega⟩
    rw [occP, if_pos h0]
    split
    · exact ⟨_, rfl⟩
    · rcases hs with hs | hs
      · obtain ⟨x, hx, h1, h2⟩ := selfB_iff.1 hs
        rw [hx]
        dsimp only
        rw [if_neg (fun h => by rcases h with h | h; exact h h1; exact h (by omega))]
        exact ⟨_, rfl⟩
      · rw [List.getElem?_eq_none_iff] at hs; omega
  · have hvt := hv t.var (by rw [freeP_var h0]; exact List.mem_singleton.2 rfl)
    obtain ⟨K, hK⟩ := ih (fun w hw => h.inn x (List.mem_of_getElem? hx) w hw)
    refine ⟨K + 1, fun k hk s => ?_⟩
    obtain ⟨k, rfl⟩ : ∃ k', k = k' + 1 := ⟨k - 1, by omega⟩
    rw [occP, if_pos h0, hx]
    dsimp only
    split
    · exact ⟨_, rfl⟩
    · split
      · exact hK k (by omega) _
      · exact ⟨_, rfl⟩
theorem sizeL_mono {f g : List Int → Ty → Option (Int × List Int)} (hfg : ∀ s a r, f s a = some r → g s a = some r) : ∀ (l : List Ty) (n : Int) (s : List Int) (r : Int × List Int), sizeL f l n s = some r → sizeL g l n s = some r
  | [], _, _, _, h => h
  | a :: l, n, s, r, h => by
    rw [sizeL] at h ⊢
    split at h
    · cases h
    · rename_i m s' h1
      rw [hfg _ _ _ h1]; exact sizeL_mono hfg l _ s' r h
theorem size_mono : ∀ (k : Nat) (s : List Int) (t : Ty) (r : Int × List Int), sizeP σ k s t = some r → sizeP σ (k + 1) s t = some r
  | 0, _, _, _, h => by cases h
  | k + 1, s, t, r, h => by
    rw [sizeP] at h ⊢
    by_cases h0 : t.kind = 0
    · rw [if_pos h0] at h ⊢
      cases hx : σ[t.var.toNat]? with
      | none => rw [hx] at h; cases h
      | some x =>
        rw [hx] at h
        dsimp only at h ⊢
        split at h
        · rename_i h2
          rw [if_pos h2]; exact h
        · rename_i h2
          rw [if_neg h2]
          split at h
          · rename_i h3
            rw [if_pos h3]
            split at h
            · cases h
            · rename_i r' s' h4
              rw [size_mono k _ _ _ h4]; exact h
          · rename_i h3
            rw [if_neg h3]; exact h
    · rw [if_neg h0] at h ⊢
      exact sizeL_mono (fun s a r hr => size_mono k s a r hr) _ _ _ _ h
theorem sizedL_mono {k : Nat} : ∀ (l : List Nat) (s : List Int) (r : Int), sizedL σ k l s = some r → sizedL σ (k + 1) l s = some r
  | [], _, _, h => h
  | v :: l, s, r, h => by
    rw [sizedL] at h ⊢
    split at h
    · cases h
    · rename_i m s' h1
      rw [size_mono k _ _ _ h1]
      dsimp only
      split at h
      · rename_i h2
        rw [if_pos h2]; exact h
      · rename_i h2
        rw [if_neg h2]; exact sizedL_mono l s' r h
theorem sized_up {k : Nat} {r : Int} (h : sizedP σ k = some r) {k' : Nat} (hk : k ≤ k') : sizedP σ k' = some r := by
  induction hk with
  | refl => exact h
  | step _ ih => exact sizedL_mono _ _ _ ih
theorem Gd.sized (h : Gd σ) : ∃ k r, sizedP σ k = some r := by
  obtain ⟨K, hK⟩ := nat_bound (P := fun v k => ∀ of, ∃ r, sizeP σ k of (varT (v : Int)) = some r) σ.length (fun v hv => size_total h.inn (varT (v : Int)) (fun w hw => by
    rw [freeP_var rfl, List.mem_singleton] at hw
    have : w = (v : Int) := hw
    omega) (h.acyV (by omega)))
  obtain ⟨r, hr⟩ := sizedL_total (k := K) (List.range σ.length) (List.replicate σ.length 0) fun v hv of => hK K (Nat.le_refl _) v (List.mem_range.1 hv) of
  exact ⟨K, r, hr⟩
/-! ### A variable bound -/
/-- How many variables are unbound. -/
def unb (σ : List Ty) : Nat := (List.range σ.length).countP (selfB σ)
theorem countP_lt {p q : Nat → Bool} {v : Nat} : ∀ l : List Nat, (∀ u ∈ l, p u = true → q u = true) → v ∈ l → q v = true → p v = false → l.countP p < l.countP q
  | [], _, hv, _, _ => by cases hv
  | u :: l, h, hv, hq, hp => by
    have hle : l.countP p ≤ l.countP q := List.countP_mono_left fun x hx => h x (List.mem_cons_of_mem _ hx)
    rw [List.countP_cons, List.countP_cons]
    by_cases e : u = v
    · subst e
      rw [hq, hp]; simp; omega
    · have hlt := countP_lt l (fun x hx => h x (List.mem_cons_of_mem _ hx)) ((List.mem_cons.1 hv).resolve_left (fun e2 => e e2.symm)) hq hp
      have h1 := h u List.mem_cons_self
      by_cases hpu : p u = true
      · rw [hpu, h1 hpu]; simp; omega
      · rw [Bool.not_eq_true] at hpu
        rw [hpu]
        have : l.countP p + 0 < l.countP q + (if q u = true then 1 else 0) := by omega
        simpa using this
/-- Something has been bound, or nothing has changed. -/
def Prog (σ τ : List Ty) : Prop := τ = σ ∨ (σ.length < τ.length) ∨ (τ.length = σ.length ∧ unb τ < unb σ)
theorem set_selfB {v : Nat} {t : Ty} (hv : v < σ.length) (hn : ¬ (t.kind = 0 ∧ t.var = (v : Int))) : selfB (σ.set v t) v = false := by
  unfold selfB
  rw [List.getElem?_set_self hv]
  dsimp only
  rw [Bool.and_eq_false_iff]
  by_cases h0 : t.kind = 0
  · exact .inr (by simpa using fun e => hn ⟨h0, e⟩)
  · exact .inl (by simpa using h0)
theorem set_keep {v : Nat} {t : Ty} (hs : selfB σ v = true) : Keep σ (σ.set v t) := ⟨by rw [List.length_set]; exact Nat.le_refl _, fun u _ hu => get_set_ne t (fun e => by rw [e, hs] at hu; cases hu)⟩
theorem set_prog {v : Nat} {t : Ty} (hv : v < σ.length) (hs : selfB σ v = true) (hn : ¬ (t.kind = 0 ∧ t.var = (v : Int))) : Prog σ (σ.set v t) := by
  refine .inr (.inr ⟨List.length_set, ?_⟩)
  unfold unb
  rw [List.length_set]
  refine countP_lt (v := v) _ (fun u _ hu => ?_) (List.mem_range.2 hv) hs (set_selfB hv hn)
  by_cases e : u = v
  · rw [e]; exact hs
  · rwa [selfB_set t e] at hu
end
end Go.Proofs.YthchnabhbpdfgaaDoor
end

section
namespace Go.Proofs.YthchnabhbpdfgaaDoor
open Go.RowKit Go.Shelf Go.Sort Stab

section
variable {σ : List Ty}
theorem bind_up {k : Nat} {v : Int} {t : Ty} {r : Int × List Ty} (h : bindP k σ v t = some r) {k' : Nat} (hk : k ≤ k') : bindP k' σ v t = some r := by
  rw [bindP] at h ⊢
  split at h
  · rename_i h1
    rw [if_pos h1]; exact h
  · rename_i h1
    rw [if_neg h1]
    split at h
    · cases h
    · rename_i s1 h2
      rw [occ_up v h2 hk]; exact h
    · rename_i s1 h2
      rw [occ_up v h2 hk]
      dsimp only
      split at h
      · cases h
      · rename_i e h3
        rw [sized_up h3 hk]; exact h
/-- What a step of the unifier leaves where it finds no error. -/
structure Step (σ τ : List Ty) : Prop where
  gd : Gd τ
  keep : Keep σ τ
  prog : Prog σ τ
theorem bind_res (h : Gd σ) {v : Int} (hv : Open σ v) {t : Ty} (ht : t.Wf) (hV : VIn σ t) :
    ∃ k e τ, bindP k σ v t = some (e, τ) ∧ (e = 0 → Step σ τ ∧ ap τ (varT v) = ap τ t) := by
  by_cases hn : t.kind = 0 ∧ t.var = v
  · refine ⟨0, 0, σ, by rw [bindP, if_pos hn], fun _ => ⟨⟨h, Keep.refl _, .inl rfl⟩, ?_⟩⟩
    rw [wf_var ht hn.1, hn.2]
  · have hvl : v.toNat < σ.length := by have := hv.2.1; have := hv.1; omega
    have hvc : ((v.toNat : Nat) : Int) = v := by have := hv.1; omega
    obtain ⟨K1, h1⟩ := occ_total h v t hV
    obtain ⟨⟨b, s1⟩, h2⟩ := h1 K1 (Nat.le_refl _) (List.replicate σ.length false)
    cases b with
    | true => exact ⟨K1, 8, σ, by rw [bindP, if_neg hn, h2], fun h => absurd h (by decide)⟩
    | false =>
      have haw := occ_away h.inn h.acy hV h2
      have hg : Gd (σ.set v.toNat t) := h.set hvl ht hV (by rw [hvc]; exact haw)
      obtain ⟨K2, r, h3⟩ := hg.sized
      refine ⟨max K1 K2, r, σ.set v.toNat t, ?_, fun _ => ⟨⟨hg, set_keep hv.2.2, set_prog hvl hv.2.2 (by rw [hvc]; exact hn)⟩, ?_⟩⟩
      · rw [bindP, if_neg hn, occ_up v h2 (Nat.le_max_left _ _), ]
        dsimp only
        rw [sized_up h3 (Nat.le_max_right _ _)]
      · have e := hg.appV_to (v := v.toNat) (x := t) (List.getElem?_set_self hvl) (set_selfB hvl (by rw [hvc]; exact hn))
        rw [hvc] at e
        rw [ap_var (σ := σ.set v.toNat t) (t := varT v) rfl]
        exact e
end
end Go.Proofs.YthchnabhbpdfgaaDoor
end
