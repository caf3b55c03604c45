/- Laws of the scanner, in plain Lean: a line feed parts a text. -/
import Derived.Test.YtnpgdeioaehahaaDoorLex
namespace Go.Proofs.YtnpgdeioaehahaaDoor
open Go

theorem tw_le {p : UInt8 → Bool} : ∀ x : Bs, (x.takeWhile p).length ≤ x.length
  | [] => by simp
  | a :: x => by
    rw [List.takeWhile_cons]
    split
    · have := tw_le (p := p) x; simp only [List.length_cons]; omega
    · simp
theorem tw_app {p : UInt8 → Bool} (hp : p 10 = false) (t : Bs) : ∀ x : Bs, (x ++ 10 :: t).takeWhile p = x.takeWhile p
  | [] => by simp [hp]
  | a :: x => by rw [List.cons_append, List.takeWhile_cons, List.takeWhile_cons, tw_app hp t x]
theorem tw_pos {p : UInt8 → Bool} {c : UInt8} (h : p c = true) (t : Bs) : 1 ≤ ((c :: t).takeWhile p).length := by
  rw [List.takeWhile_cons, if_pos h]; simp
theorem inner_10 : inner 10 = false := by decide
theorem digit_10 : digit 10 = false := by decide
theorem mark_10 : mark 10 = false := by decide
theorem small_inner {c : UInt8} (h : small c = true) : inner c = true := by simp [inner, h]
theorem large_inner {c : UInt8} (h : large c = true) : inner c = true := by simp [inner, h]

section
variable {kw dash : Bs → Bool}
theorem item_app (c : UInt8) (x t : Bs) : item kw dash c (x ++ 10 :: t) = item kw dash c x := by
  have h1 : (c :: (x ++ 10 :: t)).takeWhile inner = (c :: x).takeWhile inner := tw_app inner_10 t (c :: x)
  have h2 : (c :: (x ++ 10 :: t)).takeWhile digit = (c :: x).takeWhile digit := tw_app digit_10 t (c :: x)
  have h3 : (c :: (x ++ 10 :: t)).takeWhile mark = (c :: x).takeWhile mark := tw_app mark_10 t (c :: x)
  have h4 : (c :: (x ++ 10 :: t)).takeWhile (fun b => b != 10) = (c :: x).takeWhile (fun b => b != 10) := tw_app (p := fun b => b != 10) rfl t (c :: x)
  unfold item
  rw [h1, h2, h3, h4]

theorem item_len {c : UInt8} (hc : c ≠ 10) (t : Bs) : 1 ≤ (item kw dash c t).len ∧ (item kw dash c t).len ≤ t.length + 1 := by
  have l1 := tw_le (p := inner) (c :: t)
  have l2 := tw_le (p := digit) (c :: t)
  have l3 := tw_le (p := mark) (c :: t)
  have l4 := tw_le (p := fun b => b != 10) (c :: t)
  simp only [List.length_cons] at l1 l2 l3 l4
  unfold item
  split
  · simp
  · split
    · rename_i h; exact ⟨tw_pos (small_inner h) t, l1⟩
    · split
      · rename_i h; exact ⟨tw_pos (large_inner h) t, l1⟩
      · split
        · rename_i h
          dsimp only
          split <;> exact ⟨tw_pos h t, l2⟩
        · split
          · simp
          · split
            · rename_i h
              dsimp only
              split
              · exact ⟨tw_pos (by simpa using hc) t, l4⟩
              · exact ⟨tw_pos h t, l3⟩
            · simp

theorem tw_nl {p : UInt8 → Bool} (hp : p 10 = false) (x : Bs) : (10 : UInt8) ∉ x.take (x.takeWhile p).length := by
  rw [← List.prefix_iff_eq_take.1 (List.takeWhile_prefix p)]
  intro h
  have := List.all_takeWhile (p := p) (l := x)
  rw [List.all_eq_true] at this
  have := this 10 h
  rw [hp] at this; cases this

theorem item_nl {c : UInt8} (hc : c ≠ 10) (t : Bs) : (10 : UInt8) ∉ (c :: t).take (item kw dash c t).len := by
  have l0 : (10 : UInt8) ∉ (c :: t).take 1 := by simp; exact fun e => hc e.symm
  have l1 := tw_nl inner_10 (c :: t)
  have l2 := tw_nl digit_10 (c :: t)
  have l3 := tw_nl mark_10 (c :: t)
  have l4 := tw_nl (p := fun b => b != 10) rfl (c :: t)
  unfold item
  split
  · exact l0
  · split
    · exact l1
    · split
      · exact l1
      · split
        · dsimp only
          split <;> exact l2
        · split
          · exact l0
          · split
            · dsimp only
              split
              · exact l4
              · exact l3
            · exact l0

theorem lex_fuel : ∀ (f : Nat) (l : Bs) (ln cl : Int), l.length < f → ∀ f', l.length < f' → lex kw dash f l ln cl = lex kw dash f' l ln cl
  | 0, _, _, _, h, _, _ => by omega
  | f + 1, l, ln, cl, h, 0, h' => by omega
  | f + 1, [], ln, cl, h, f' + 1, h' => rfl
  | f + 1, c :: t, ln, cl, h, f' + 1, h' => by
    simp only [List.length_cons] at h h'
    unfold lex
    by_cases hc : c = 10
    · rw [if_pos hc, if_pos hc]; exact lex_fuel f t _ _ (by omega) f' (by omega)
    · rw [if_neg hc, if_neg hc]
      have hl := (item_len (kw := kw) (dash := dash) hc t).1
      dsimp only
      rw [lex_fuel f ((c :: t).drop (item kw dash c t).len) ln _ (by rw [List.length_drop, List.length_cons]; omega) f' (by rw [List.length_drop, List.length_cons]; omega)]

theorem lex_ne : ∀ (f : Nat) (l : Bs) (ln cl : Int), l.length < f → (lex kw dash f l ln cl).1 ≠ []
  | 0, _, _, _, h => by omega
  | f + 1, [], ln, cl, _ => by simp [lex]
  | f + 1, c :: t, ln, cl, h => by
    simp only [List.length_cons] at h
    unfold lex
    by_cases hc : c = 10
    · rw [if_pos hc]; exact lex_ne f t _ _ (by omega)
    · rw [if_neg hc]
      have hl := (item_len (kw := kw) (dash := dash) hc t).1
      have := lex_ne f ((c :: t).drop (item kw dash c t).len) ln (cl + (item kw dash c t).len) (by rw [List.length_drop, List.length_cons]; omega)
      dsimp only
      cases (item kw dash c t).tok with
      | none => exact this
      | some p => obtain ⟨a, b, n⟩ := p; simp [put?]

theorem put_dropLast {o : Option (Int × Bs × Int)} {ln cl : Int} {l : List Tk} (h : l ≠ []) : (put? o ln cl l).dropLast = put? o ln cl l.dropLast := by
  cases o with
  | none => rfl
  | some p => obtain ⟨a, b, n⟩ := p; simp [put?, List.dropLast_cons_of_ne_nil h]
theorem put_append (o : Option (Int × Bs × Int)) (ln cl : Int) (l m : List Tk) : put? o ln cl (l ++ m) = put? o ln cl l ++ m := by
  cases o with
  | none => rfl
  | some p => obtain ⟨a, b, n⟩ := p; rfl

/-- A line feed parts a text. -/
theorem lex_app (t : Bs) : ∀ (f : Nat) (s : Bs) (ln cl : Int), s.length + t.length + 1 < f →
    lex kw dash f (s ++ 10 :: t) ln cl = ((lex kw dash f s ln cl).1.dropLast ++ (lex kw dash f t (ln + s.count 10 + 1) 1).1, (lex kw dash f s ln cl).2 || (lex kw dash f t (ln + s.count 10 + 1) 1).2)
  | 0, _, _, _, h => by omega
  | f + 1, [], ln, cl, h => by
    simp only [List.length_nil] at h
    have e : lex kw dash (f + 1) ([] ++ 10 :: t) ln cl = lex kw dash f t (ln + 1) 1 := by rw [List.nil_append, lex, if_pos rfl]
    rw [e, lex_fuel f t _ _ (by omega) (f + 1) (by omega)]
    simp [lex]
  | f + 1, c :: s, ln, cl, h => by
    simp only [List.length_cons] at h
    by_cases hc : c = 10
    · subst hc
      have e1 : lex kw dash (f + 1) ((10 :: s) ++ 10 :: t) ln cl = lex kw dash f (s ++ 10 :: t) (ln + 1) 1 := by rw [List.cons_append, lex, if_pos rfl]
      have e2 : lex kw dash (f + 1) (10 :: s) ln cl = lex kw dash f s (ln + 1) 1 := by rw [lex, if_pos rfl]
      rw [e1, e2, lex_app t f s (ln + 1) 1 (by omega), lex_fuel f t _ _ (by omega) (f + 1) (by omega), List.count_cons_self]
      have e3 : ln + 1 + (s.count 10 : Nat) + 1 = ln + ((s.count 10 + 1 : Nat) : Int) + 1 := by omega
      rw [e3]
    · have hl := item_len (kw := kw) (dash := dash) hc s
      have e1 : lex kw dash (f + 1) ((c :: s) ++ 10 :: t) ln cl = (put? (item kw dash c s).tok ln cl (lex kw dash f (((c :: s) ++ 10 :: t).drop (item kw dash c s).len) ln (cl + (item kw dash c s).len)).1, (item kw dash c s).bad || (lex kw dash f (((c :: s) ++ 10 :: t).drop (item kw dash c s).len) ln (cl + (item kw dash c s).len)).2) := by
        rw [List.cons_append, lex, if_neg hc, item_app]
      have e2 : lex kw dash (f + 1) (c :: s) ln cl = (put? (item kw dash c s).tok ln cl (lex kw dash f ((c :: s).drop (item kw dash c s).len) ln (cl + (item kw dash c s).len)).1, (item kw dash c s).bad || (lex kw dash f ((c :: s).drop (item kw dash c s).len) ln (cl + (item kw dash c s).len)).2) := by
        rw [lex, if_neg hc]
      have hd : ((c :: s) ++ 10 :: t).drop (item kw dash c s).len = (c :: s).drop (item kw dash c s).len ++ 10 :: t := List.drop_append_of_le_length (by simp only [List.length_cons]; exact hl.2)
      have hdl : ((c :: s).drop (item kw dash c s).len).length + t.length + 1 < f := by rw [List.length_drop, List.length_cons]; omega
      have hcount : ((c :: s).drop (item kw dash c s).len).count 10 = (c :: s).count 10 := by
        have h1 := item_nl (kw := kw) (dash := dash) hc s
        have h2 := congrArg (List.count 10) (List.take_append_drop (item kw dash c s).len (c :: s))
        rw [List.count_append, List.count_eq_zero.2 h1, Nat.zero_add] at h2
        exact h2
      rw [e1, e2, hd, lex_app t f _ ln _ hdl, lex_fuel f t _ _ (by omega) (f + 1) (by omega), hcount, put_dropLast (lex_ne f _ _ _ (by rw [List.length_drop, List.length_cons]; omega)), put_append]
      simp [Bool.or_assoc]

/-- Further down: the lines' numbers alone are others. -/
def Tk.down (d : Int) (x : Tk) : Tk := { x with line := x.line + d }
theorem lex_down (d : Int) : ∀ (f : Nat) (l : Bs) (ln cl : Int), lex kw dash f l (ln + d) cl = ((lex kw dash f l ln cl).1.map (Tk.down d), (lex kw dash f l ln cl).2)
  | 0, _, _, _ => by simp [lex]
  | f + 1, [], ln, cl => by simp [lex, Tk.down]
  | f + 1, c :: t, ln, cl => by
    by_cases hc : c = 10
    · have e : ∀ ln, lex kw dash (f + 1) (c :: t) ln cl = lex kw dash f t (ln + 1) 1 := fun ln => by rw [lex, if_pos hc]
      rw [e, e, show ln + d + 1 = (ln + 1) + d by omega, lex_down d f t (ln + 1) 1]
    · have e : ∀ ln, lex kw dash (f + 1) (c :: t) ln cl = (put? (item kw dash c t).tok ln cl (lex kw dash f ((c :: t).drop (item kw dash c t).len) ln (cl + (item kw dash c t).len)).1, (item kw dash c t).bad || (lex kw dash f ((c :: t).drop (item kw dash c t).len) ln (cl + (item kw dash c t).len)).2) := fun ln => by
        rw [lex, if_neg hc]
      rw [e, e, lex_down d f _ ln _]
      cases (item kw dash c t).tok with
      | none => rfl
      | some p => obtain ⟨a, b, n⟩ := p; rfl
end
end Go.Proofs.YtnpgdeioaehahaaDoor
