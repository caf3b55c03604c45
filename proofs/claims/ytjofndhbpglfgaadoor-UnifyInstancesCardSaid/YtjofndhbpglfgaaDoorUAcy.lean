/- What CheckSubst asks: it ends, and where it finds no cycle all variables lead to an end. No program in sight. -/
import Derived.Test.YtjofndhbpglfgaaDoorUMatch
namespace Go.Proofs.YtjofndhbpglfgaaDoor
open Go.RowKit Go.Shelf Go.Sort Stab

/-- A variable that leads to no cycle. -/
inductive Acy (σ : List Ty) : Nat → Prop where
  | self (v : Nat) (h : selfB σ v = true) : Acy σ v
  | node (v : Nat) (h : ∀ w ∈ freeAt σ v, Acy σ w.toNat) : Acy σ v
def StOk (σ : List Ty) (st : List Int) : Prop := ∀ u, 0 < st.getD u 0 → st.getD u 0 = 1 ∨ Acy σ u
theorem getD_set (st : List Int) (v u : Nat) (x : Int) : (st.set v x).getD u 0 = if v = u ∧ u < st.length then x else st.getD u 0 := by
  rw [List.getD_eq_getElem?_getD, List.getD_eq_getElem?_getD]
  by_cases h : v = u
  · subst h
    by_cases hl : v < st.length
    · rw [List.getElem?_set_self hl, if_pos ⟨rfl, hl⟩]; rfl
    · rw [if_neg (fun h => hl h.2), List.getElem?_eq_none (by rw [List.length_set]; omega), List.getElem?_eq_none (by omega)]
  · rw [List.getElem?_set_ne h, if_neg (fun h2 => h h2.1)]
theorem cycL_acy {σ : List Ty} {f : List Int → Nat → Option (Bool × List Int)} (hf : ∀ st v st', StOk σ st → f st v = some (false, st') → StOk σ st' ∧ Acy σ v) : ∀ (l st st' : List Int), StOk σ st → cycL f l st = some (false, st') → StOk σ st' ∧ ∀ w ∈ l, Acy σ w.toNat
  | [], st, st', h, e => by
    simp only [cycL, Option.some.injEq, Prod.mk.injEq, true_and] at e
    rw [← e]; exact ⟨h, fun w hw => by cases hw⟩
  | x :: r, st, st', h, e => by
    rw [cycL] at e
    split at e
    · cases e
    · cases e
    · rename_i s1 h1
      obtain ⟨h2, h3⟩ := hf st x.toNat s1 h h1
      obtain ⟨h4, h5⟩ := cycL_acy hf r s1 st' h2 e
      refine ⟨h4, fun w hw => ?_⟩
      rcases List.mem_cons.1 hw with rfl | hw
      · exact h3
      · exact h5 w hw
theorem cyc_acy {σ : List Ty} : ∀ (n : Nat) (st : List Int) (v : Nat) (st' : List Int), StOk σ st → cyc σ n st v = some (false, st') → StOk σ st' ∧ Acy σ v
  | 0, _, _, _, _, h => by cases h
  | n + 1, st, v, st', hs, h => by
    rw [cyc] at h
    split at h
    · rename_i h1
      simp only [Option.some.injEq, Prod.mk.injEq, decide_eq_false_iff_not] at h
      rw [← h.2]
      refine ⟨hs, ?_⟩
      rcases h1 with h1 | h1
      · exact (hs v h1).resolve_left h.1
      · exact .self v h1
    · split at h
      · cases h
      · cases h
      · rename_i s1 h2
        simp only [Option.some.injEq, Prod.mk.injEq, true_and] at h
        have hs1 : StOk σ (st.set v 1) := fun u hu => by
          rw [getD_set] at hu ⊢
          by_cases hc : v = u ∧ u < st.length
          · rw [if_pos hc]; exact .inl rfl
          · rw [if_neg hc] at hu ⊢; exact hs u hu
        obtain ⟨h3, h4⟩ := cycL_acy (fun a b c ha hb => cyc_acy n a b c ha hb) _ _ _ hs1 h2
        have ha : Acy σ v := .node v h4
        refine ⟨?_, ha⟩
        rw [← h]
        intro u hu
        rw [getD_set] at hu ⊢
        by_cases hc : v = u ∧ u < s1.length
        · rw [← hc.1]; exact .inr ha
        · rw [if_neg hc] at hu ⊢; exact h3 u hu
theorem cycS_acy {σ : List Ty} {k : Nat} : ∀ (l : List Nat) (st : List Int), StOk σ st → cycS σ k l st = some false → ∀ v ∈ l, Acy σ v
  | [], _, _, _ => fun v hv => by cases hv
  | x :: r, st, hs, h => by
    rw [cycS] at h
    split at h
    · cases h
    · cases h
    · rename_i s1 h1
      obtain ⟨h2, h3⟩ := cyc_acy k st x s1 hs h1
      intro v hv
      rcases List.mem_cons.1 hv with rfl | hv
      · exact h3
      · exact cycS_acy r s1 h2 h v hv
/-! ### It ends -/
def zeros (st : List Int) : Nat := st.countP fun x => decide (x ≤ 0)
theorem zeros_set_le : ∀ (st : List Int) (v : Nat) (x : Int), 0 < x → zeros (st.set v x) ≤ zeros st
  | [], _, _, _ => Nat.le_refl _
  | y :: r, 0, x, hx => by
    unfold zeros
    rw [List.set_cons_zero, List.countP_cons, List.countP_cons, if_neg (by simp; omega)]
    omega
  | y :: r, v + 1, x, hx => by
    have := zeros_set_le r v x hx
    unfold zeros at *
    rw [List.set_cons_succ, List.countP_cons, List.countP_cons]
    omega
theorem zeros_set_lt : ∀ (st : List Int) (v : Nat) (x : Int), 0 < x → v < st.length → st.getD v 0 ≤ 0 → zeros (st.set v x) < zeros st
  | [], _, _, _, h, _ => by simp at h
  | y :: r, 0, x, hx, _, h => by
    unfold zeros
    have hy : y ≤ 0 := h
    rw [List.set_cons_zero, List.countP_cons, List.countP_cons, if_neg (by simp; omega), if_pos (by simp; omega)]
    omega
  | y :: r, v + 1, x, hx, hl, h => by
    have := zeros_set_lt r v x hx (by simpa using hl) (by simpa using h)
    unfold zeros at *
    rw [List.set_cons_succ, List.countP_cons, List.countP_cons]
    omega
theorem cycL_total {f : List Int → Nat → Option (Bool × List Int)} {n m : Nat} (hf : ∀ st v, zeros st ≤ n → st.length = m → v < m → ∃ b st', f st v = some (b, st') ∧ zeros st' ≤ zeros st ∧ st'.length = m) : ∀ (l st : List Int), zeros st ≤ n → st.length = m → (∀ w ∈ l, w.toNat < m) → ∃ b st', cycL f l st = some (b, st') ∧ zeros st' ≤ zeros st ∧ st'.length = m
  | [], st, _, h, _ => ⟨false, st, rfl, Nat.le_refl _, h⟩
  | x :: r, st, hz, hl, hw => by
    obtain ⟨b, s1, h1, h2, h3⟩ := hf st x.toNat hz hl (hw x List.mem_cons_self)
    rw [cycL, h1]
    cases b
    · obtain ⟨b, s2, k1, k2, k3⟩ := cycL_total hf r s1 (by omega) h3 (fun w hw' => hw w (List.mem_cons_of_mem _ hw'))
      exact ⟨b, s2, k1, by omega, k3⟩
    · exact ⟨true, s1, rfl, h2, h3⟩
theorem freeAt_in {σ : List Ty} (hσ : SubIn σ) {v : Nat} : ∀ w ∈ freeAt σ v, w.toNat < σ.length := fun w hw => by
  unfold freeAt at hw
  split at hw
  · cases hw
  · rename_i x hx
    have := hσ x (List.mem_of_getElem? hx) w hw
    omega
theorem cyc_total {σ : List Ty} (hσ : SubIn σ) : ∀ (n : Nat) (st : List Int) (v : Nat), zeros st ≤ n → st.length = σ.length → v < σ.length → ∃ b st', cyc σ (n + 1) st v = some (b, st') ∧ zeros st' ≤ zeros st ∧ st'.length = σ.length
  | n, st, v, hz, hl, hv => by
    rw [cyc]
    split
    · exact ⟨_, st, rfl, Nat.le_refl _, hl⟩
    · rename_i h
      have h0 : st.getD v 0 ≤ 0 := by
        rcases Int.lt_or_le 0 (st.getD v 0) with h1 | h1
        · exact absurd (.inl h1) h
        · exact h1
      have hlt := zeros_set_lt st v 1 (by decide) (by omega) h0
      cases n with
      | zero => omega
      | succ n =>
        obtain ⟨b, s1, h1, h2, h3⟩ := cycL_total (n := n) (m := σ.length) (fun st v hz hl hv => cyc_total hσ n st v hz hl hv) (freeAt σ v) (st.set v 1) (by omega) (by rw [List.length_set]; exact hl) (freeAt_in hσ)
        rw [h1]
        cases b
        · exact ⟨false, s1.set v 2, rfl, by have := zeros_set_le s1 v 2 (by decide); omega, by rw [List.length_set]; exact h3⟩
        · exact ⟨true, s1, rfl, by omega, h3⟩
theorem cycS_total {σ : List Ty} (hσ : SubIn σ) (n : Nat) : ∀ (l : List Nat) (st : List Int), zeros st ≤ n → st.length = σ.length → (∀ v ∈ l, v < σ.length) → ∃ b, cycS σ (n + 1) l st = some b
  | [], _, _, _, _ => ⟨false, rfl⟩
  | x :: r, st, hz, hl, hv => by
    obtain ⟨b, s1, h1, h2, h3⟩ := cyc_total hσ n st x hz hl (hv x List.mem_cons_self)
    rw [cycS, h1]
    cases b
    · exact cycS_total hσ n r s1 (by omega) h3 (fun w hw => hv w (List.mem_cons_of_mem _ hw))
    · exact ⟨true, rfl⟩

/-! ### Induction where no variable leads to a cycle -/
def AcyT (σ : List Ty) (t : Ty) : Prop := ∀ v ∈ freeP t, Acy σ v.toNat
theorem acy_ind {σ : List Ty} {P : Ty → Prop} (hn : ∀ t, t.kind ≠ 0 → (∀ a ∈ t.args, P a) → P t) (hs : ∀ t, t.kind = 0 → (selfB σ t.var.toNat = true ∨ σ[t.var.toNat]? = none) → P t)
    (hb : ∀ t x, t.kind = 0 → selfB σ t.var.toNat = false → σ[t.var.toNat]? = some x → P x → P t) (t : Ty) (ht : AcyT σ t) : P t := by
  have hv : ∀ v, Acy σ v → ∀ t : Ty, t.kind = 0 → t.var.toNat = v → P t := by
    intro v h
    induction h with
    | self v h => exact fun t h0 he => hs t h0 (.inl (by rw [he]; exact h))
    | node v h ih =>
      intro t h0 he
      cases hsb : selfB σ v with
      | true => exact hs t h0 (.inl (by rw [he]; exact hsb))
      | false =>
        cases hx : σ[v]? with
        | none => exact hs t h0 (.inr (by rw [he]; exact hx))
        | some x =>
          have hfr : freeAt σ v = freeP x := by unfold freeAt; rw [hx]
          refine hb t x h0 (by rw [he]; exact hsb) (by rw [he]; exact hx) ?_
          have key : ∀ y : Ty, (∀ w ∈ freeP y, w ∈ freeAt σ v) → P y := ty_ind (P := fun y => (∀ w ∈ freeP y, w ∈ freeAt σ v) → P y) (fun y ihy hy => by
            by_cases h1 : y.kind = 0
            · exact ih y.var (hy _ (by rw [freeP_var h1]; exact List.mem_singleton.2 rfl)) y h1 rfl
            · exact hn y h1 fun a ha => ihy a ha fun w hw => hy w ((freeP_args h1).2 ⟨a, ha, hw⟩))
          exact key x (fun w hw => by rw [hfr]; exact hw)
  refine ty_ind (P := fun t => AcyT σ t → P t) (fun t ih h => ?_) t ht
  by_cases h0 : t.kind = 0
  · exact hv _ (h _ (by rw [freeP_var h0]; exact List.mem_singleton.2 rfl)) t h0 rfl
  · exact hn t h0 fun a ha => ih a ha fun v hv => h v ((freeP_args h0).2 ⟨a, ha, hv⟩)
theorem selfB_iff {σ : List Ty} {v : Nat} : selfB σ v = true ↔ ∃ x, σ[v]? = some x ∧ x.kind = 0 ∧ x.var = (v : Int) := by
  unfold selfB
  cases σ[v]? with
  | none => simp
  | some x => simp
/-- Numbers that serve for all of a list. -/
theorem list_bound {P : Ty → Nat → Prop} : ∀ l : List Ty, (∀ a ∈ l, ∃ K, ∀ k, K ≤ k → P a k) → ∃ K, ∀ k, K ≤ k → ∀ a ∈ l, P a k
  | [], _ => ⟨0, fun _ _ a ha => by cases ha⟩
  | a :: r, h => by
    obtain ⟨K1, h1⟩ := h a List.mem_cons_self
    obtain ⟨K2, h2⟩ := list_bound r (fun b hb => h b (List.mem_cons_of_mem _ hb))
    refine ⟨max K1 K2, fun k hk b hb => ?_⟩
    rcases List.mem_cons.1 hb with rfl | hb
    · exact h1 k (by omega)
    · exact h2 k (by omega) b hb
theorem sizeL_total {f : List Int → Ty → Option (Int × List Int)} : ∀ (l : List Ty) (n : Int) (of : List Int), (∀ a ∈ l, ∀ of, ∃ r, f of a = some r) → ∃ r, sizeL f l n of = some r
  | [], n, of, _ => ⟨_, rfl⟩
  | a :: r, n, of, h => by
    obtain ⟨⟨m, of1⟩, h1⟩ := h a List.mem_cons_self of
    rw [sizeL, h1]
    exact sizeL_total r _ _ (fun b hb => h b (List.mem_cons_of_mem _ hb))
theorem size_total {σ : List Ty} (hσ : SubIn σ) (t : Ty) (hv : VIn σ t) (ht : AcyT σ t) : ∃ K, ∀ k, K ≤ k → ∀ of, ∃ r, sizeP σ k of t = some r := by
  refine acy_ind (P := fun t => VIn σ t → ∃ K, ∀ k, K ≤ k → ∀ of, ∃ r, sizeP σ k of t = some r) (fun t h0 ih hv => ?_) (fun t h0 hs hv => ?_) (fun t x h0 hs hx ih hv => ?_) t ht hv
  · obtain ⟨K, hK⟩ := list_bound (P := fun a k => ∀ of, ∃ r, sizeP σ k of a = some r) t.args (fun a ha => ih a ha (hv.arg h0 ha))
    refine ⟨K + 1, fun k hk of => ?_⟩
    obtain ⟨k, rfl⟩ : ∃ k', k = k' + 1 := ⟨k - 1, by omega⟩
    rw [sizeP, if_neg h0]
    exact sizeL_total _ _ _ (fun a ha => hK k (by omega) a ha)
  · have hvl := hv t.var (by rw [freeP_var h0]; exact List.mem_singleton.2 rfl)
    refine ⟨1, fun k hk of => ?_⟩
    obtain ⟨k, rfl⟩ : ∃ k', k = k' + 1 := ⟨k - 1, by omega⟩
    rcases hs with hs | hs
    · obtain ⟨x, hx, h1, h2⟩ := selfB_iff.1 hs
      rw [sizeP, if_pos h0, hx]
      dsimp only
      rw [if_pos ⟨h1, by omega⟩]
      exact ⟨_, rfl⟩
    · rw [List.getElem?_eq_none_iff] at hs; omega
  · have hvl := hv t.var (by rw [freeP_var h0]; exact List.mem_singleton.2 rfl)
    obtain ⟨K, hK⟩ := ih (fun v hv' => hσ x (List.mem_of_getElem? hx) v hv')
    refine ⟨K + 1, fun k hk of => ?_⟩
    obtain ⟨k, rfl⟩ : ∃ k', k = k' + 1 := ⟨k - 1, by omega⟩
    rw [sizeP, if_pos h0, hx]
    dsimp only
    rw [if_neg (fun h => by
      have : selfB σ t.var.toNat = true := selfB_iff.2 ⟨x, hx, h.1, by omega⟩
      rw [hs] at this; cases this)]
    split
    · obtain ⟨⟨r, of'⟩, hr⟩ := hK k (by omega) of
      rw [hr]; exact ⟨_, rfl⟩
    · exact ⟨_, rfl⟩
theorem sizedL_total {σ : List Ty} {k : Nat} : ∀ (l : List Nat) (of : List Int), (∀ v ∈ l, ∀ of, ∃ r, sizeP σ k of (varT (v : Int)) = some r) → ∃ r, sizedL σ k l of = some r
  | [], _, _ => ⟨0, rfl⟩
  | v :: r, of, h => by
    obtain ⟨⟨m, of1⟩, h1⟩ := h v List.mem_cons_self of
    rw [sizedL, h1]
    dsimp only
    split
    · exact ⟨_, rfl⟩
    · exact sizedL_total r of1 (fun w hw => h w (List.mem_cons_of_mem _ hw))
theorem nat_bound {P : Nat → Nat → Prop} : ∀ n : Nat, (∀ v, v < n → ∃ K, ∀ k, K ≤ k → P v k) → ∃ K, ∀ k, K ≤ k → ∀ v, v < n → P v k
  | 0, _ => ⟨0, fun _ _ v hv => by omega⟩
  | n + 1, h => by
    obtain ⟨K1, h1⟩ := h n (by omega)
    obtain ⟨K2, h2⟩ := nat_bound n (fun v hv => h v (by omega))
    refine ⟨max K1 K2, fun k hk v hv => ?_⟩
    by_cases e : v = n
    · subst e; exact h1 k (by omega)
    · exact h2 k (by omega) v (by omega)
theorem stOk_zero (σ : List Ty) (n : Nat) : StOk σ (List.replicate n 0) := fun u hu => by
  rw [List.getD_eq_getElem?_getD, List.getElem?_replicate] at hu
  split at hu <;> exact absurd hu (by decide)
/-- A substitution that CheckSubst accepts. -/
structure Fine (σ : List Ty) : Prop where
  len : σ.length ≤ 4096
  ok : ∀ t ∈ σ, tyErr σ.length t = 0
  acy : ∀ v, v < σ.length → Acy σ v
theorem Fine.inn {σ : List Ty} (h : Fine σ) : SubIn σ := fun x hx => (tyErr_ok (h.ok x hx)).2
theorem Fine.sized {σ : List Ty} (h : Fine σ) : ∃ K, ∀ k, K ≤ k → ∃ r, sizedP σ k = some r := by
  obtain ⟨K, hK⟩ := nat_bound (P := fun v k => ∀ of, ∃ r, sizeP σ k of (varT (v : Int)) = some r) σ.length (fun v hv => size_total h.inn (varT (v : Int)) (fun w hw => by
    rw [freeP_var rfl, List.mem_singleton] at hw
    have : w = (v : Int) := hw
    omega) (fun w hw => by
    rw [freeP_var rfl, List.mem_singleton] at hw
    have : w = (v : Int) := hw
    subst this
    exact h.acy _ hv))
  exact ⟨K, fun k hk => sizedL_total _ _ fun v hv of => hK k hk v (List.mem_range.1 hv) of⟩
/-- CheckSubst ends; where it finds nothing wrong the substitution is fine. -/
theorem subC_total (σ : List Ty) : ∃ k r, subC σ k = some r ∧ (r = 0 → Fine σ) := by
  by_cases h1 : 4096 < σ.length
  · exact ⟨0, 2, by rw [subC, if_pos h1], fun h => absurd h (by decide)⟩
  by_cases h2 : tysErr σ.length σ = 0
  · have hσ : SubIn σ := fun x hx => (tyErr_ok (tysErr_ok h2 x hx)).2
    have hz : zeros (List.replicate σ.length 0) ≤ σ.length := by
      unfold zeros
      have := List.countP_le_length (p := fun x : Int => decide (x ≤ 0)) (l := List.replicate σ.length 0)
      rwa [List.length_replicate] at this
    have hc := fun n (hn : σ.length ≤ n) => cycS_total hσ n (List.range σ.length) (List.replicate σ.length 0) (by omega) (List.length_replicate) (fun v hv => List.mem_range.1 hv)
    obtain ⟨b, hb⟩ := hc σ.length (Nat.le_refl _)
    cases b
    · have hf : Fine σ := ⟨by omega, tysErr_ok h2, fun v hv => cycS_acy _ _ (stOk_zero σ _) hb v (List.mem_range.2 hv)⟩
      obtain ⟨K, hK⟩ := hf.sized
      obtain ⟨b2, hb2⟩ := hc (σ.length + K) (by omega)
      cases b2
      · obtain ⟨r, hr⟩ := hK (σ.length + K + 1) (by omega)
        exact ⟨σ.length + K + 1, r, by rw [subC, if_neg h1, if_neg (by rw [h2]; simp), hb2]; exact hr, fun _ => hf⟩
      · exact ⟨σ.length + K + 1, 8, by rw [subC, if_neg h1, if_neg (by rw [h2]; simp), hb2], fun h => absurd h (by decide)⟩
    · exact ⟨σ.length + 1, 8, by rw [subC, if_neg h1, if_neg (by rw [h2]; simp), hb], fun h => absurd h (by decide)⟩
  · exact ⟨0, _, by rw [subC, if_neg h1, if_pos h2], fun h => absurd h h2⟩
end Go.Proofs.YtjofndhbpglfgaaDoor
