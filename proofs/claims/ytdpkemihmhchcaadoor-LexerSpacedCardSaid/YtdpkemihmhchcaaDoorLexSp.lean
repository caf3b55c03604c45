/- Laws of the scanner, in plain Lean: the tokens' texts with blanks between them are scanned as the same tokens. -/
import Derived.Test.YtdpkemihmhchcaaDoorLexLaw
namespace Go.Proofs.YtdpkemihmhchcaaDoor
open Go

def Tk.core (x : Tk) : Int × Bs × Int := (x.kind, x.text, x.n)
/-- The tokens' texts, a blank behind each. -/
def spaced (l : List Tk) : Bs := l.flatMap fun x => x.text ++ [32]

theorem tw_all {p : UInt8 → Bool} (hp : p 32 = false) (rest : Bs) : ∀ u : Bs, u.all p = true → (u ++ 32 :: rest).takeWhile p = u
  | [], _ => by simp [hp]
  | c :: u, h => by
    rw [List.all_cons, Bool.and_eq_true] at h
    rw [List.cons_append, List.takeWhile_cons, if_pos h.1, tw_all hp rest u h.2]
theorem tw_cons {p : UInt8 → Bool} (hp : p 32 = false) {c : UInt8} (hc : p c = true) (t rest : Bs) :
    (c :: t).takeWhile p = c :: t.takeWhile p ∧ (c :: (t.takeWhile p ++ 32 :: rest)).takeWhile p = c :: t.takeWhile p := by
  rw [List.takeWhile_cons, if_pos hc, List.takeWhile_cons, if_pos hc, tw_all hp rest _ List.all_takeWhile]
  exact ⟨rfl, rfl⟩

section
variable {kw dash : Bs → Bool}
theorem item_sp {c : UInt8} {t : Bs} {n0 : Nat} {k n : Int} {u : Bs} (h : item kw dash c t = ⟨n0, some (k, u, n), false⟩) :
    ∃ u', u = c :: u' ∧ n0 = u.length ∧ ∀ rest, item kw dash c (u' ++ 32 :: rest) = ⟨u.length, some (k, u, n), false⟩ := by
  have i32 : inner 32 = false := by decide
  have d32 : digit 32 = false := by decide
  have m32 : mark 32 = false := by decide
  by_cases c1 : c = 32
  · unfold item at h; rw [if_pos c1] at h; cases h
  by_cases c2 : small c = true
  · unfold item at h; rw [if_neg c1, if_pos c2] at h
    have e := fun rest => tw_cons i32 (small_inner c2) t rest
    dsimp only at h
    rw [(e []).1] at h
    simp only [It.mk.injEq, Option.some.injEq, Prod.mk.injEq, and_true] at h
    obtain ⟨h1, h2, h3, h4⟩ := h
    subst h3
    refine ⟨_, rfl, h1.symm, fun rest => ?_⟩
    unfold item; rw [if_neg c1, if_pos c2]
    dsimp only
    rw [(e rest).2, h2, h4]
  by_cases c3 : large c = true
  · unfold item at h; rw [if_neg c1, if_neg c2, if_pos c3] at h
    have e := fun rest => tw_cons i32 (large_inner c3) t rest
    dsimp only at h
    rw [(e []).1] at h
    simp only [It.mk.injEq, Option.some.injEq, Prod.mk.injEq, and_true] at h
    obtain ⟨h1, h2, h3, h4⟩ := h
    subst h3
    refine ⟨_, rfl, h1.symm, fun rest => ?_⟩
    unfold item; rw [if_neg c1, if_neg c2, if_pos c3]
    dsimp only
    rw [(e rest).2, h2, h4]
  by_cases c4 : digit c = true
  · unfold item at h; rw [if_neg c1, if_neg c2, if_neg c3, if_pos c4] at h
    have e := fun rest => tw_cons d32 c4 t rest
    dsimp only at h
    rw [(e []).1] at h
    split at h
    · cases h
    · rename_i hbig
      simp only [It.mk.injEq, Option.some.injEq, Prod.mk.injEq, and_true] at h
      obtain ⟨h1, h2, h3, h4⟩ := h
      subst h3
      refine ⟨_, rfl, h1.symm, fun rest => ?_⟩
      unfold item; rw [if_neg c1, if_neg c2, if_neg c3, if_pos c4]
      dsimp only
      rw [(e rest).2, if_neg hbig, h2, h4]
  by_cases c5 : punct c = true
  · unfold item at h; rw [if_neg c1, if_neg c2, if_neg c3, if_neg c4, if_pos c5] at h
    simp only [It.mk.injEq, Option.some.injEq, Prod.mk.injEq, and_true] at h
    obtain ⟨h1, h2, h3, h4⟩ := h
    subst h3
    refine ⟨[], rfl, h1.symm, fun rest => ?_⟩
    unfold item; rw [if_neg c1, if_neg c2, if_neg c3, if_neg c4, if_pos c5, ← h2, ← h4]; rfl
  by_cases c6 : mark c = true
  · unfold item at h; rw [if_neg c1, if_neg c2, if_neg c3, if_neg c4, if_neg c5, if_pos c6] at h
    have e := fun rest => tw_cons m32 c6 t rest
    dsimp only at h
    rw [(e []).1] at h
    split at h
    · cases h
    · rename_i hd
      simp only [It.mk.injEq, Option.some.injEq, Prod.mk.injEq, and_true] at h
      obtain ⟨h1, h2, h3, h4⟩ := h
      subst h3
      refine ⟨_, rfl, h1.symm, fun rest => ?_⟩
      unfold item; rw [if_neg c1, if_neg c2, if_neg c3, if_neg c4, if_neg c5, if_pos c6]
      dsimp only
      rw [(e rest).2, if_neg hd, h2, h4]
  · unfold item at h; rw [if_neg c1, if_neg c2, if_neg c3, if_neg c4, if_neg c5, if_neg c6] at h; cases h

theorem item_32 (t : Bs) : item kw dash 32 t = ⟨1, none, false⟩ := by unfold item; rw [if_pos rfl]
theorem lex_32 (F : Nat) (t : Bs) (ln cl : Int) (h : t.length < F) : lex kw dash (F + 1) (32 :: t) ln cl = lex kw dash (F + 1) t ln (cl + 1) := by
  rw [lex, if_neg (by decide), item_32]
  show (put? none ln cl (lex kw dash F t ln (cl + 1)).1, false || (lex kw dash F t ln (cl + 1)).2) = _
  rw [lex_fuel F t ln (cl + 1) h (F + 1) (by omega)]
  simp [put?]

theorem lex_spaced : ∀ (f : Nat) (s : Bs) (ln cl : Int), s.length < f → (lex kw dash f s ln cl).2 = false → ∀ (F : Nat) (ln' cl' : Int), (spaced (lex kw dash f s ln cl).1).length ≤ F →
    (lex kw dash (F + 1) (spaced (lex kw dash f s ln cl).1) ln' cl').1.map Tk.core = (lex kw dash f s ln cl).1.map Tk.core ∧ (lex kw dash (F + 1) (spaced (lex kw dash f s ln cl).1) ln' cl').2 = false
  | 0, _, _, _, h, _, _, _, _, _ => by omega
  | f + 1, [], ln, cl, _, _, F, ln', cl', hF => by
    have e : lex kw dash (f + 1) [] ln cl = ([⟨9, [], 0, ln, cl⟩], false) := rfl
    rw [e] at hF ⊢
    have es : spaced [⟨9, [], 0, ln, cl⟩] = [32] := rfl
    rw [es] at hF ⊢
    have hF1 : 1 ≤ F := by simpa using hF
    rw [lex_32 F [] ln' cl' (by simp; omega)]
    exact ⟨rfl, rfl⟩
  | f + 1, c :: t, ln, cl, h, hb, F, ln', cl', hF => by
    simp only [List.length_cons] at h
    by_cases hc : c = 10
    · have e : lex kw dash (f + 1) (c :: t) ln cl = lex kw dash f t (ln + 1) 1 := by rw [lex, if_pos hc]
      rw [e] at hb hF ⊢
      exact lex_spaced f t (ln + 1) 1 (by omega) hb F ln' cl' hF
    · have hl := item_len (kw := kw) (dash := dash) hc t
      have e : lex kw dash (f + 1) (c :: t) ln cl = (put? (item kw dash c t).tok ln cl (lex kw dash f ((c :: t).drop (item kw dash c t).len) ln (cl + (item kw dash c t).len)).1, (item kw dash c t).bad || (lex kw dash f ((c :: t).drop (item kw dash c t).len) ln (cl + (item kw dash c t).len)).2) := by
        rw [lex, if_neg hc]
      have hd : ((c :: t).drop (item kw dash c t).len).length < f := by rw [List.length_drop, List.length_cons]; omega
      rw [e] at hb hF ⊢
      simp only [Bool.or_eq_false_iff] at hb
      have ih := lex_spaced f ((c :: t).drop (item kw dash c t).len) ln (cl + (item kw dash c t).len) hd hb.2
      cases ho : (item kw dash c t).tok with
      | none =>
        rw [ho] at hF
        exact ih F ln' cl' hF
      | some p =>
        obtain ⟨k, u, n⟩ := p
        obtain ⟨R, hR⟩ : ∃ R, (lex kw dash f ((c :: t).drop (item kw dash c t).len) ln (cl + (item kw dash c t).len)).1 = R := ⟨_, rfl⟩
        rw [hR] at ih hF ⊢
        rw [ho] at hF
        have hi : item kw dash c t = ⟨(item kw dash c t).len, some (k, u, n), false⟩ := by rw [← ho, ← hb.1]
        obtain ⟨u', rfl, _, hu⟩ := item_sp hi
        have es : spaced (put? (some (k, c :: u', n)) ln cl R) = c :: (u' ++ 32 :: spaced R) := by simp [spaced, put?]
        dsimp only at hF ⊢
        rw [es] at hF ⊢
        simp only [List.length_cons, List.length_append] at hF
        obtain ⟨F2, rfl⟩ : ∃ F2, F = F2 + 1 := ⟨F - 1, by omega⟩
        have hdr : (c :: (u' ++ 32 :: spaced R)).drop (c :: u').length = 32 :: spaced R := by
          rw [← List.cons_append]; exact List.drop_left' rfl
        have e2 : lex kw dash (F2 + 1 + 1) (c :: (u' ++ 32 :: spaced R)) ln' cl' = (put? (some (k, c :: u', n)) ln' cl' (lex kw dash (F2 + 1) (spaced R) ln' (cl' + ((c :: u').length : Nat) + 1)).1, (lex kw dash (F2 + 1) (spaced R) ln' (cl' + ((c :: u').length : Nat) + 1)).2) := by
          rw [lex, if_neg hc, hu]
          dsimp only
          rw [hdr, lex_32 F2 (spaced R) ln' _ (by omega)]
          simp
        rw [e2]
        obtain ⟨g1, g2⟩ := ih F2 ln' (cl' + ((c :: u').length : Nat) + 1) (by omega)
        refine ⟨?_, g2⟩
        simp only [put?, List.map_cons, g1]
        rfl
end

/-- The bytes of tokens are bytes of the text. -/
theorem item_sub {kw dash : Bs → Bool} {c : UInt8} {t : Bs} {n0 : Nat} {k n : Int} {u : Bs} {b : Bool} (h : item kw dash c t = ⟨n0, some (k, u, n), b⟩) : ∀ x ∈ u, x ∈ c :: t := by
  have tw : ∀ (p : UInt8 → Bool) (x : UInt8), x ∈ (c :: t).takeWhile p → x ∈ c :: t := fun p x hx => (List.takeWhile_sublist p).subset hx
  unfold item at h
  split at h
  · cases h
  · split at h
    · simp only [It.mk.injEq, Option.some.injEq, Prod.mk.injEq] at h; obtain ⟨_, ⟨_, rfl, _⟩, _⟩ := h; exact tw _
    · split at h
      · simp only [It.mk.injEq, Option.some.injEq, Prod.mk.injEq] at h; obtain ⟨_, ⟨_, rfl, _⟩, _⟩ := h; exact tw _
      · split at h
        · dsimp only at h
          split at h
          · simp only [It.mk.injEq, Option.some.injEq, Prod.mk.injEq] at h; obtain ⟨_, ⟨_, rfl, _⟩, _⟩ := h; exact tw _
          · simp only [It.mk.injEq, Option.some.injEq, Prod.mk.injEq] at h; obtain ⟨_, ⟨_, rfl, _⟩, _⟩ := h; exact tw _
        · split at h
          · simp only [It.mk.injEq, Option.some.injEq, Prod.mk.injEq] at h; obtain ⟨_, ⟨_, rfl, _⟩, _⟩ := h; simp
          · split at h
            · dsimp only at h
              split at h
              · cases h
              · simp only [It.mk.injEq, Option.some.injEq, Prod.mk.injEq] at h; obtain ⟨_, ⟨_, rfl, _⟩, _⟩ := h; exact tw _
            · cases h
theorem lex_sub {kw dash : Bs → Bool} : ∀ (f : Nat) (s : Bs) (ln cl : Int), ∀ x ∈ (lex kw dash f s ln cl).1, ∀ y ∈ x.text, y ∈ s
  | 0, _, _, _, x, hx => by simp [lex] at hx
  | f + 1, [], ln, cl, x, hx => by simp [lex] at hx; subst hx; simp
  | f + 1, c :: t, ln, cl, x, hx => by
    unfold lex at hx
    by_cases hc : c = 10
    · rw [if_pos hc] at hx
      exact fun y hy => List.mem_cons_of_mem _ (lex_sub f t _ _ x hx y hy)
    · rw [if_neg hc] at hx
      have ih := fun x hx y hy => (List.drop_sublist (item kw dash c t).len (c :: t)).subset (lex_sub (kw := kw) (dash := dash) f ((c :: t).drop (item kw dash c t).len) ln (cl + (item kw dash c t).len) x hx y hy)
      dsimp only at hx
      cases ho : (item kw dash c t).tok with
      | none => rw [ho] at hx; exact ih x hx
      | some p =>
        obtain ⟨k, u, n⟩ := p
        rw [ho] at hx
        rcases List.mem_cons.1 hx with rfl | hx
        · exact item_sub (n0 := (item kw dash c t).len) (b := (item kw dash c t).bad) (by rw [← ho])
        · exact ih x hx
end Go.Proofs.YtdpkemihmhchcaaDoor
