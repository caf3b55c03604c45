/- Laws of the scanner, in plain Lean: where its tokens stand in the text, and what is between them. -/
import Derived.Test.YtnpgdeioaehahaaDoorLexLaw
import Derived.Test.YtnpgdeioaehahaaDoorLines
import Derived.Lib.Space
namespace Go.Proofs.YtnpgdeioaehahaaDoor
open Go

/-- A piece of a line between tokens: blanks, then nothing or a comment. -/
def PieceOk (x : Bs) : Prop := ∃ n y, x = List.replicate n 32 ++ y ∧ (y = [] ∨ ∃ z, y = 45 :: 45 :: z)
def GapOk (g : Bs) : Prop := ∀ x ∈ lines g, PieceOk x
theorem PieceOk.nil : PieceOk [] := ⟨0, [], rfl, .inl rfl⟩
theorem PieceOk.blank {x : Bs} (h : PieceOk x) : PieceOk (x ++ [32]) := by
  obtain ⟨n, y, rfl, rfl | ⟨z, rfl⟩⟩ := h
  · exact ⟨n + 1, [], by rw [List.append_nil, List.append_nil, List.replicate_succ'], .inl rfl⟩
  · exact ⟨n, 45 :: 45 :: (z ++ [32]), by simp, .inr ⟨_, rfl⟩⟩
theorem PieceOk.comment {x : Bs} (h : PieceOk x) (z : Bs) : PieceOk (x ++ 45 :: 45 :: z) := by
  obtain ⟨n, y, rfl, rfl | ⟨z', rfl⟩⟩ := h
  · exact ⟨n, 45 :: 45 :: z, by simp, .inr ⟨_, rfl⟩⟩
  · exact ⟨n, 45 :: 45 :: (z' ++ 45 :: 45 :: z), by simp, .inr ⟨_, rfl⟩⟩
theorem GapOk.nil : GapOk [] := fun x hx => by
  rw [lines_one (by simp)] at hx
  rw [List.mem_singleton.1 hx]; exact PieceOk.nil
theorem GapOk.snoc {u : Bs} (hu : (10 : UInt8) ∉ u) (hp : ∀ x, PieceOk x → PieceOk (x ++ u)) (g : Bs) (h : GapOk g) : GapOk (g ++ u) := by
  revert h
  refine lines_ind (p := fun g => GapOk g → GapOk (g ++ u)) (fun l hl h => ?_) (fun A B hA ih h => ?_) g
  · intro x hx
    rw [lines_one (by simp [hl, hu])] at hx
    rw [List.mem_singleton.1 hx]
    exact hp l (h l (by rw [lines_one hl]; simp))
  · intro x hx
    rw [List.append_assoc, List.cons_append, lines_cons hA] at hx
    rcases List.mem_cons.1 hx with rfl | hx
    · exact h x (by rw [lines_cons hA]; simp)
    · exact ih (fun y hy => h y (by rw [lines_cons hA]; simp [hy])) x hx
theorem GapOk.nl (g : Bs) (h : GapOk g) : GapOk (g ++ [10]) := by
  revert h
  refine lines_ind (p := fun g => GapOk g → GapOk (g ++ [10])) (fun l hl h => ?_) (fun A B hA ih h => ?_) g
  · intro x hx
    rw [lines_cons hl, lines_one (by simp)] at hx
    rcases List.mem_cons.1 hx with rfl | hx
    · exact h x (by rw [lines_one hl]; simp)
    · rw [List.mem_singleton.1 hx]; exact PieceOk.nil
  · intro x hx
    rw [List.append_assoc, List.cons_append, lines_cons hA] at hx
    rcases List.mem_cons.1 hx with rfl | hx
    · exact h x (by rw [lines_cons hA]; simp)
    · exact ih (fun y hy => h y (by rw [lines_cons hA]; simp [hy])) x hx

theorem lines_mem : ∀ (g x : Bs), x ∈ lines g → ∀ b ∈ x, b ∈ g := fun g => by
  refine lines_ind (p := fun g => ∀ x, x ∈ lines g → ∀ b ∈ x, b ∈ g) (fun l hl x hx b hb => ?_) (fun A B hA ih x hx b hb => ?_) g
  · rw [lines_one hl] at hx
    rw [List.mem_singleton.1 hx] at hb; exact hb
  · rw [lines_cons hA] at hx
    rcases List.mem_cons.1 hx with rfl | hx
    · simp [hb]
    · have := ih x hx b hb
      simp [this]
theorem drop_blanks (n : Nat) (y : Bs) : (List.replicate n 32 ++ y).dropWhile Lib.isSp = y.dropWhile Lib.isSp := by
  induction n with
  | zero => rfl
  | succ n ih => rw [List.replicate_succ, List.cons_append, List.dropWhile_cons, if_pos (by decide), ih]
theorem dropWhile_end (p : UInt8 → Bool) (a b : UInt8) (ha : p a = false) : ∀ z : Bs, ∃ r, (z ++ [a, b]).dropWhile p = r ++ [a, b]
  | [] => ⟨[], by simp [ha]⟩
  | c :: z => by
    rw [List.cons_append, List.dropWhile_cons]
    split
    · exact dropWhile_end p a b ha z
    · exact ⟨c :: z, rfl⟩
theorem PieceOk.trim {x : Bs} (h : PieceOk x) : Lib.trimSpace x = [] ∨ ∃ r, Lib.trimSpace x = 45 :: 45 :: r := by
  obtain ⟨n, y, rfl, rfl | ⟨z, rfl⟩⟩ := h
  · left; unfold Lib.trimSpace; rw [drop_blanks]; rfl
  · right
    unfold Lib.trimSpace
    rw [drop_blanks, List.dropWhile_cons, if_neg (by decide)]
    have e : (45 :: 45 :: z : Bs).reverse = z.reverse ++ [45, 45] := by simp
    rw [e]
    obtain ⟨r, hr⟩ := dropWhile_end Lib.isSp 45 45 (by decide) z.reverse
    rw [hr]
    exact ⟨r.reverse, by simp⟩

/-- How far a text has been read: the beginning of the line, the line, the column. -/
structure Pos (A : Bs) (s : Nat) (ln cl : Int) : Prop where
  le : s ≤ A.length
  no : (10 : UInt8) ∉ A.drop s
  z : s = 0 ∨ A[s - 1]? = some 10
  ln : ln = (A.count 10 : Int) + 1
  cl : cl = ((A.length - s : Nat) : Int) + 1
theorem Pos.start : Pos [] 0 1 1 := ⟨Nat.le_refl _, by simp, .inl rfl, by simp, by simp⟩
theorem Pos.nl {A : Bs} {s : Nat} {ln cl : Int} (h : Pos A s ln cl) : Pos (A ++ [10]) (A.length + 1) (ln + 1) 1 :=
  ⟨by simp, by simp, .inr (by simp), by rw [h.ln, List.count_append]; simp, by simp⟩
theorem Pos.go {A : Bs} {s : Nat} {ln cl : Int} (h : Pos A s ln cl) {u : Bs} (hu : (10 : UInt8) ∉ u) : Pos (A ++ u) s ln (cl + u.length) := by
  have hle := h.le
  refine ⟨by simp; omega, ?_, ?_, ?_, ?_⟩
  · rw [List.drop_append_of_le_length h.le, List.mem_append]
    rintro (h1 | h1)
    · exact h.no h1
    · exact hu h1
  · rcases h.z with h1 | h1
    · exact .inl h1
    · right
      rw [List.getElem?_append_left (List.getElem?_eq_some_iff.1 h1).1]; exact h1
  · rw [h.ln, List.count_append, List.count_eq_zero.2 hu]; rfl
  · rw [h.cl, List.length_append]; omega

/-- The tokens stand in the text, from a place on, one behind the other. -/
def Placed (S : Bs) : Nat → List Tk → Prop
  | e, [] => e = S.length
  | e, x :: l => ∃ (k c : Nat) (y : Bs), x.line = (k : Int) + 1 ∧ x.col = (c : Int) + 1 ∧ (lines S)[k]? = some y ∧ c ≤ y.length ∧ e ≤ start S k + c ∧ start S k + c + x.text.length ≤ S.length ∧
      (S.drop (start S k + c)).take x.text.length = x.text ∧ GapOk ((S.drop e).take (start S k + c - e)) ∧ Placed S (start S k + c + x.text.length) l

theorem take_tw (p : UInt8 → Bool) (l : Bs) : l.take (l.takeWhile p).length = l.takeWhile p := (List.prefix_iff_eq_take.1 (List.takeWhile_prefix p)).symm
section
variable {kw dash : Bs → Bool}
theorem item_some {c : UInt8} {t : Bs} {k n : Int} {u : Bs} (h : (item kw dash c t).tok = some (k, u, n)) : (c :: t).take (item kw dash c t).len = u ∧ u.length = (item kw dash c t).len := by
  unfold item at h ⊢
  by_cases c1 : c = 32
  · rw [if_pos c1] at h; cases h
  rw [if_neg c1] at h ⊢
  by_cases c2 : small c = true
  · rw [if_pos c2] at h ⊢
    simp only [Option.some.injEq, Prod.mk.injEq] at h
    obtain ⟨_, rfl, _⟩ := h
    exact ⟨take_tw _ _, rfl⟩
  rw [if_neg c2] at h ⊢
  by_cases c3 : large c = true
  · rw [if_pos c3] at h ⊢
    simp only [Option.some.injEq, Prod.mk.injEq] at h
    obtain ⟨_, rfl, _⟩ := h
    exact ⟨take_tw _ _, rfl⟩
  rw [if_neg c3] at h ⊢
  by_cases c4 : digit c = true
  · rw [if_pos c4] at h ⊢
    dsimp only at h ⊢
    by_cases c5 : 1073741823 < numFrom 0 ((c :: t).takeWhile digit)
    · rw [if_pos c5] at h ⊢
      simp only [Option.some.injEq, Prod.mk.injEq] at h
      obtain ⟨_, rfl, _⟩ := h
      exact ⟨take_tw _ _, rfl⟩
    · rw [if_neg c5] at h ⊢
      simp only [Option.some.injEq, Prod.mk.injEq] at h
      obtain ⟨_, rfl, _⟩ := h
      exact ⟨take_tw _ _, rfl⟩
  rw [if_neg c4] at h ⊢
  by_cases c5 : punct c = true
  · rw [if_pos c5] at h ⊢
    simp only [Option.some.injEq, Prod.mk.injEq] at h
    obtain ⟨_, rfl, _⟩ := h
    exact ⟨rfl, rfl⟩
  rw [if_neg c5] at h ⊢
  by_cases c6 : mark c = true
  · rw [if_pos c6] at h ⊢
    dsimp only at h ⊢
    by_cases c7 : 1 < ((c :: t).takeWhile mark).length ∧ dash ((c :: t).takeWhile mark) = true
    · rw [if_pos c7] at h; cases h
    · rw [if_neg c7] at h ⊢
      simp only [Option.some.injEq, Prod.mk.injEq] at h
      obtain ⟨_, rfl, _⟩ := h
      exact ⟨take_tw _ _, rfl⟩
  · rw [if_neg c6] at h; cases h
theorem item_none (hd : ∀ u, dash u = true → 1 < u.length → ∃ z, u = 45 :: 45 :: z) {c : UInt8} {t : Bs} (h : (item kw dash c t).tok = none) (hb : (item kw dash c t).bad = false) :
    (c :: t).take (item kw dash c t).len = [32] ∨ ∃ z, (c :: t).take (item kw dash c t).len = 45 :: 45 :: z := by
  unfold item at h hb ⊢
  by_cases c1 : c = 32
  · rw [if_pos c1]; left; subst c1; rfl
  rw [if_neg c1] at h hb ⊢
  by_cases c2 : small c = true
  · rw [if_pos c2] at h; cases h
  rw [if_neg c2] at h hb ⊢
  by_cases c3 : large c = true
  · rw [if_pos c3] at h; cases h
  rw [if_neg c3] at h hb ⊢
  by_cases c4 : digit c = true
  · rw [if_pos c4] at h
    dsimp only at h
    split at h <;> cases h
  rw [if_neg c4] at h hb ⊢
  by_cases c5 : punct c = true
  · rw [if_pos c5] at h; cases h
  rw [if_neg c5] at h hb ⊢
  by_cases c6 : mark c = true
  · rw [if_pos c6] at h hb ⊢
    dsimp only at h hb ⊢
    by_cases c7 : 1 < ((c :: t).takeWhile mark).length ∧ dash ((c :: t).takeWhile mark) = true
    · rw [if_pos c7]
      right
      obtain ⟨z, hz⟩ := hd _ c7.2 c7.1
      show ∃ z, (c :: t).take ((c :: t).takeWhile (fun b => b != 10)).length = 45 :: 45 :: z
      rw [take_tw]
      obtain ⟨r, hr⟩ := List.takeWhile_prefix mark (l := c :: t)
      rw [hz] at hr
      rw [← hr]
      exact ⟨(z ++ r).takeWhile (fun b => b != 10), by simp⟩
    · rw [if_neg c7] at h; cases h
  · rw [if_neg c6] at hb; cases hb

theorem lex_end : ∀ (f : Nat) (l : Bs) (ln cl : Int), l.length < f → ∃ r x, (lex kw dash f l ln cl).1 = r ++ [x] ∧ x.kind = 9
  | 0, _, _, _, h => by omega
  | f + 1, [], ln, cl, _ => ⟨[], _, rfl, rfl⟩
  | f + 1, c :: t, ln, cl, h => by
    simp only [List.length_cons] at h
    by_cases hc : c = 10
    · rw [lex, if_pos hc]; exact lex_end f t _ _ (by omega)
    · have hl := item_len (kw := kw) (dash := dash) hc t
      rw [lex, if_neg hc]
      obtain ⟨r, x, h1, h2⟩ := lex_end f ((c :: t).drop (item kw dash c t).len) ln (cl + (item kw dash c t).len) (by rw [List.length_drop, List.length_cons]; omega)
      show ∃ r x, put? (item kw dash c t).tok ln cl (lex kw dash f ((c :: t).drop (item kw dash c t).len) ln (cl + (item kw dash c t).len)).1 = r ++ [x] ∧ x.kind = 9
      rw [h1]
      cases (item kw dash c t).tok with
      | none => exact ⟨r, x, rfl, h2⟩
      | some p =>
        obtain ⟨k, u, n⟩ := p
        exact ⟨⟨k, u, n, ln, cl⟩ :: r, x, rfl, h2⟩
theorem lex_places (hd : ∀ u, dash u = true → 1 < u.length → ∃ z, u = 45 :: 45 :: z) : ∀ (f : Nat) (rest A E g : Bs) (s : Nat) (ln cl : Int), rest.length < f → Pos A s ln cl → A = E ++ g → GapOk g → (lex kw dash f rest ln cl).2 = false →
    Placed (A ++ rest) E.length (lex kw dash f rest ln cl).1
  | 0, _, _, _, _, _, _, _, h, _, _, _, _ => by omega
  | f + 1, [], A, E, g, s, ln, cl, _, hp, hA, hg, _ => by
    have e : lex kw dash (f + 1) [] ln cl = ([⟨9, [], 0, ln, cl⟩], false) := rfl
    rw [e]
    obtain ⟨h1, y, h2, h3⟩ := place_law [] A s hp.le hp.no hp.z
    have hle := hp.le
    have hEl : E.length ≤ A.length := by rw [hA]; simp
    have hs : start (A ++ []) (A.count 10) + (A.length - s) = A.length := by rw [h1]; omega
    refine ⟨A.count 10, A.length - s, y, hp.ln, hp.cl, h2, h3, by omega, by simp only [List.length_nil]; rw [hs]; simp, by simp, ?_, ?_⟩
    · rw [hs, List.append_nil, hA]
      simpa using hg
    · show _ = _
      rw [hs]; simp
  | f + 1, c :: t, A, E, g, s, ln, cl, hf, hp, hA, hg, hb => by
    simp only [List.length_cons] at hf
    by_cases hc : c = 10
    · subst hc
      have e : lex kw dash (f + 1) (10 :: t) ln cl = lex kw dash f t (ln + 1) 1 := by rw [lex, if_pos rfl]
      rw [e] at hb ⊢
      have := lex_places hd f t (A ++ [10]) E (g ++ [10]) (A.length + 1) (ln + 1) 1 (by omega) hp.nl (by rw [hA, List.append_assoc]) (GapOk.nl g hg) hb
      simpa using this
    · have hl := item_len (kw := kw) (dash := dash) hc t
      have hn := item_nl (kw := kw) (dash := dash) hc t
      have e : lex kw dash (f + 1) (c :: t) ln cl = (put? (item kw dash c t).tok ln cl (lex kw dash f ((c :: t).drop (item kw dash c t).len) ln (cl + (item kw dash c t).len)).1, (item kw dash c t).bad || (lex kw dash f ((c :: t).drop (item kw dash c t).len) ln (cl + (item kw dash c t).len)).2) := by
        rw [lex, if_neg hc]
      have hdl : ((c :: t).drop (item kw dash c t).len).length < f := by rw [List.length_drop, List.length_cons]; omega
      rw [e] at hb ⊢
      simp only [Bool.or_eq_false_iff] at hb
      have hsplit : (A ++ (c :: t).take (item kw dash c t).len) ++ (c :: t).drop (item kw dash c t).len = A ++ c :: t := by rw [List.append_assoc, List.take_append_drop]
      have hul : ((c :: t).take (item kw dash c t).len).length = (item kw dash c t).len := by rw [List.length_take, List.length_cons]; omega
      have hgo := hp.go hn
      rw [hul] at hgo
      cases ho : (item kw dash c t).tok with
      | none =>
        have hgap : GapOk (g ++ (c :: t).take (item kw dash c t).len) := by
          refine GapOk.snoc hn (fun x hx => ?_) g hg
          rcases item_none hd ho hb.1 with h1 | ⟨z, h1⟩
          · rw [h1]; exact hx.blank
          · rw [h1]; exact hx.comment z
        have := lex_places hd f _ _ E _ s ln _ hdl hgo (by rw [hA, List.append_assoc]) hgap hb.2
        rw [hsplit] at this
        exact this
      | some p =>
        obtain ⟨k, u, n⟩ := p
        obtain ⟨h1, h2⟩ := item_some ho
        obtain ⟨h3, y, h4, h5⟩ := place_law (c :: t) A s hp.le hp.no hp.z
        have hle := hp.le
        have hEl : E.length ≤ A.length := by rw [hA]; simp
        have hs : start (A ++ c :: t) (A.count 10) + (A.length - s) = A.length := by rw [h3]; omega
        have ih := lex_places hd f _ _ (A ++ (c :: t).take (item kw dash c t).len) [] s ln _ hdl hgo (by simp) GapOk.nil hb.2
        rw [hsplit, List.length_append, hul] at ih
        show Placed _ _ (⟨k, u, n, ln, cl⟩ :: _)
        refine ⟨A.count 10, A.length - s, y, hp.ln, hp.cl, h4, h5, by omega, ?_, ?_, ?_, ?_⟩
        · show _ + u.length ≤ _
          rw [hs, h2, List.length_append, List.length_cons]; omega
        · show ((A ++ c :: t).drop _).take u.length = u
          rw [hs, List.drop_left' rfl, h2, h1]
        · rw [hs, List.drop_append_of_le_length hEl, hA]
          simpa using hg
        · show Placed _ (_ + u.length) _
          rw [hs, h2]; exact ih
end
end Go.Proofs.YtnpgdeioaehahaaDoor
