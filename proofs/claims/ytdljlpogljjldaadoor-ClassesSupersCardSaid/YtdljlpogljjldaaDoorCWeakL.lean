/- Further given requirements never take a proof away (plain). -/
import Derived.Test.YtdljlpogljjldaaDoorCRedL
namespace Go.Proofs.YtdljlpogljjldaaDoor
open Go.RowKit Go.Shelf Go.Sort

theorem givenP_more {l : List ClassSig} (hK : Known l) (want more : Pred) {k : Nat} (hk : l.length < k) (hm : (findC l more.cls).isSome = true) : ∀ (hs : List Pred) (i : Nat), (∀ h ∈ hs, (findC l h.cls).isSome = true) →
    ∃ r, givenP l want k i (hs ++ [more]) = some r ∧ ∀ p, givenP l want k i hs = some (some p) → r = some p
  | [], i, _ => by
    obtain ⟨r, h1, _⟩ := givenP_total hK want hk [more] i (fun h hh => by rw [List.mem_singleton.1 hh]; exact hm)
    exact ⟨r, h1, fun p hp => by rw [givenP] at hp; simp at hp⟩
  | h :: hs, i, hkn => by
    obtain ⟨r, g1, g2⟩ := givenP_more hK want more hk hm hs (i + 1) (fun x hx => hkn x (List.mem_cons_of_mem _ hx))
    rw [List.cons_append, givenP, givenP]
    by_cases h1 : sameB h.ty want.ty = true
    · rw [if_pos h1, if_pos h1]
      obtain ⟨r2, s2, e1, _, _⟩ := superP_total hK want.cls k h.cls (.mk 0 (i : Int) []) [] (hkn h List.mem_cons_self) ⟨List.nodup_nil, fun y hy => by cases hy⟩ (by simpa using hk)
      rw [e1]
      cases r2 with
      | some x => exact ⟨some x, rfl, fun p hp => by simpa using hp⟩
      | none => exact ⟨r, g1, g2⟩
    · rw [if_neg h1, if_neg h1]
      exact ⟨r, g1, g2⟩
/-- The same search with one more given: it ends well, at no higher cost. -/
theorem entailP_more {l : List ClassSig} (hK : Known l) {s : List InstSig} {hs : List Pred} {more : Pred} {k : Nat} (hk : l.length < k) (hm : (findC l more.cls).isSome = true) (hkn : ∀ h ∈ hs, (findC l h.cls).isSome = true) :
    ∀ (q : Nat) (want : Pred) (depth left : Int) (p : Pf) (left' : Int), entailP l s hs k q want depth left = some (p, 0, left') → ∀ lE, left ≤ lE → ∃ pf lE', entailP l s (hs ++ [more]) k q want depth lE = some (pf, 0, lE') ∧ left' ≤ lE'
  | 0, _, _, _, _, _, h => by cases h
  | q + 1, want, depth, left, p, left', h => by
    intro lE hle
    have hleft : ∀ depth left p left', 0 ≤ left → entailP l s hs k (q + 1) want depth left = some (p, 0, left') → left' ≤ left := fun depth left p left' h0 h => (entailP_left l s hs k (q + 1) want depth left p left' h).2
    obtain ⟨r, hr, hr2⟩ := givenP_more hK want more hk hm hs 0 hkn
    rw [entailP] at h
    split at h
    · simp at h
    rename_i hb
    have hb' : ¬ (400 < depth ∨ lE - 1 < 0) := by omega
    rw [entailP, if_neg hb', hr]
    cases hg : givenP l want k 0 hs with
    | none => rw [hg] at h; cases h
    | some g =>
      rw [hg] at h
      cases g with
      | some z =>
        simp only [Option.some.injEq, Prod.mk.injEq, true_and] at h
        rw [hr2 z hg]
        exact ⟨z, lE - 1, rfl, by omega⟩
      | none =>
        cases hin : instanceP want 0 s with
        | none => rw [hin] at h; simp at h
        | some y =>
          obtain ⟨i, needs⟩ := y
          rw [hin] at h
          dsimp only at h ⊢
          have key : ∀ (ns : List Pred) (acc acc2 : List Pf) (left lE : Int) (subs : List Pf) (left' : Int), left ≤ lE → 0 ≤ left → entailL (fun n left => entailP l s hs k q n (depth + 1) left) ns acc left = some (subs, 0, left') →
              ∃ subs2 lE', entailL (fun n left => entailP l s (hs ++ [more]) k q n (depth + 1) left) ns acc2 lE = some (subs2, 0, lE') ∧ left' ≤ lE' ∧ left' ≤ left := by
            intro ns
            induction ns with
            | nil =>
              intro acc acc2 left lE subs left' hle _ h
              rw [entailL] at h
              simp only [Option.some.injEq, Prod.mk.injEq, true_and] at h
              exact ⟨acc2, lE, rfl, by omega, by omega⟩
            | cons n ns ihn =>
              intro acc acc2 left lE subs left' hle h0 h
              rw [entailL] at h
              cases hc : entailP l s hs k q n (depth + 1) left with
              | none => rw [hc] at h; cases h
              | some y =>
                obtain ⟨p1, e, l1⟩ := y
                rw [hc] at h
                dsimp only at h
                split at h
                · rename_i he
                  simp only [Option.some.injEq, Prod.mk.injEq] at h
                  exact absurd h.2.1 he
                · rename_i he
                  have he : e = 0 := Classical.not_not.1 he
                  subst he
                  have hl := entailP_left l s hs k q n (depth + 1) left p1 l1 hc
                  obtain ⟨pf, lE1, g1, g2⟩ := entailP_more hK hk hm hkn q n (depth + 1) left p1 l1 hc lE hle
                  obtain ⟨subs2, lE2, c1, c2, c3⟩ := ihn (acc ++ [p1]) (acc2 ++ [pf]) l1 lE1 subs left' g2 hl.1 h
                  refine ⟨subs2, lE2, ?_, c2, by omega⟩
                  rw [entailL, g1]
                  exact c1
          cases hL : entailL (fun n left => entailP l s hs k q n (depth + 1) left) needs [] (left - 1) with
          | none => rw [hL] at h; cases h
          | some z =>
            obtain ⟨subs, e, l1⟩ := z
            rw [hL] at h
            dsimp only at h
            split at h
            · rename_i he
              simp only [Option.some.injEq, Prod.mk.injEq] at h
              exact absurd h.2.1 he
            · rename_i he
              have he : e = 0 := Classical.not_not.1 he
              subst he
              simp only [Option.some.injEq, Prod.mk.injEq, true_and] at h
              obtain ⟨subs2, lE', g1, g2, g3⟩ := key needs [] [] (left - 1) (lE - 1) subs l1 (by omega) (by omega) hL
              cases r with
              | some z => exact ⟨z, lE - 1, rfl, by omega⟩
              | none => simp only [g1]; exact ⟨_, lE', rfl, by omega⟩
end Go.Proofs.YtdljlpogljjldaaDoor
