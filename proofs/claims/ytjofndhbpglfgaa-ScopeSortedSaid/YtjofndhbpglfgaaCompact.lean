/- Removing repetitions of neighbours, in plain words. No program in sight. -/
namespace Go.Proofs.Ytjofndhbpglfgaa.Cpt
section
variable {α : Type} {q : α → α → Bool}
/-- Each element that is not alike to the one ahead of it; p is the one ahead of all. -/
def cs (q : α → α → Bool) : Option α → List α → List α
  | _, [] => []
  | p, x :: l => if p.any (q x) then cs q (some x) l else x :: cs q (some x) l
def lastp : Option α → List α → Option α
  | p, [] => p
  | _, x :: l => lastp (some x) l
theorem cs_app : ∀ (l m : List α) (p : Option α), cs q p (l ++ m) = cs q p l ++ cs q (lastp p l) m
  | [], _, _ => rfl
  | x :: l, m, p => by
    rw [List.cons_append, cs, cs, cs_app l m (some x), lastp]
    split <;> rfl
theorem lastp_snoc : ∀ (l : List α) (p : Option α) (x : α), lastp p (l ++ [x]) = some x
  | [], _, _ => rfl
  | y :: l, _, x => by rw [List.cons_append, lastp, lastp_snoc l]
theorem cs_snoc (l : List α) (p : Option α) (x : α) : cs q p (l ++ [x]) = if (lastp p l).any (q x) then cs q p l else cs q p l ++ [x] := by
  rw [cs_app, cs, cs]
  split <;> simp
/-- One step: the first n + 1 elements, n not 0. -/
theorem cs_step {l : List α} {n : Nat} (h : n + 1 < l.length) : cs q none (l.take (n + 1 + 1)) = if q l[n + 1] l[n] then cs q none (l.take (n + 1)) else cs q none (l.take (n + 1)) ++ [l[n + 1]] := by
  rw [List.take_succ_eq_append_getElem h, cs_snoc, List.take_succ_eq_append_getElem (show n < l.length by omega), lastp_snoc]
  rfl
theorem cs_one {l : List α} (h : 0 < l.length) : cs q none (l.take 1) = l.take 1 := by
  cases l with
  | nil => simp at h
  | cons x l => rfl
theorem cs_sub : ∀ (l : List α) (p : Option α), (cs q p l).Sublist l
  | [], _ => List.Sublist.refl _
  | x :: l, p => by
    rw [cs]
    split
    · exact (cs_sub l _).cons _
    · exact (cs_sub l _).cons_cons _
theorem cs_mem (hq : ∀ x y, q x y = true → x = y) : ∀ (l : List α) (p : Option α) (x : α), x ∈ l → x ∈ cs q p l ∨ p = some x
  | [], _, _, h => by cases h
  | y :: l, p, x, h => by
    rw [cs]
    rcases List.mem_cons.1 h with rfl | h
    · split
      · rename_i hp
        right
        cases p with
        | none => cases hp
        | some z => rw [hq x z hp]
      · exact .inl List.mem_cons_self
    · rcases cs_mem hq l (some y) x h with h1 | h1
      · left
        split
        · exact h1
        · exact List.mem_cons_of_mem _ h1
      · cases h1
        split
        · rename_i hp
          right
          cases p with
          | none => cases hp
          | some z => rw [hq _ z hp]
        · exact .inl List.mem_cons_self
/-- No two neighbours are alike. -/
theorem cs_apart (hq : ∀ x y, q x y = true ↔ x = y) : ∀ (l : List α) (p : Option α), (∀ x r, cs q p l = x :: r → (p.any (q x)) = false) ∧ ∀ i x y, (cs q p l)[i]? = some x → (cs q p l)[i + 1]? = some y → q y x = false
  | [], _ => ⟨(fun x r h => by simp [cs] at h), (fun i x y h => by simp [cs] at h)⟩
  | z :: l, p => by
    obtain ⟨h1, h2⟩ := cs_apart hq l (some z)
    rw [cs]
    by_cases hp : p.any (q z) = true
    · rw [if_pos hp]
      refine ⟨fun x r h => ?_, h2⟩
      cases p with
      | none => cases hp
      | some v =>
        have : z = v := (hq z v).1 hp
        subst this
        exact h1 x r h
    · rw [if_neg hp]
      rw [Bool.not_eq_true] at hp
      refine ⟨fun x r h => by cases h; exact hp, fun i x y hx hy => ?_⟩
      cases i with
      | zero =>
        simp at hx; subst hx
        rw [List.getElem?_cons_succ] at hy
        obtain ⟨r, hr⟩ : ∃ r, cs q (some z) l = y :: r := by
          cases hc : cs q (some z) l with
          | nil => rw [hc] at hy; cases hy
          | cons a r => rw [hc] at hy; simp at hy; subst hy; exact ⟨r, rfl⟩
        exact h1 y r hr
      | succ i =>
        rw [List.getElem?_cons_succ] at hx hy
        exact h2 i x y hx hy
end
end Go.Proofs.Ytjofndhbpglfgaa.Cpt
