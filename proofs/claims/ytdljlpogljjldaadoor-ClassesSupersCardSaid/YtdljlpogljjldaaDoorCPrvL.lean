/- Proofs that Entail gives are proofs that Proves takes (plain). -/
import Derived.Test.YtdljlpogljjldaaDoorCRedL
namespace Go.Proofs.YtdljlpogljjldaaDoor
open Go.RowKit Go.Shelf Go.Sort

theorem proves_super {l : List ClassSig} {s : List InstSig} {hs : List Pred} {p : Pf} {t : Ty} {h x : ByteArray} {i : Nat} (hp : provesP l s hs p t = some h) (hx : (supOf l h)[i]? = some x) : provesP l s hs (.mk 1 (i : Int) [p]) t = some x := by
  unfold supOf at hx
  rw [provesP, if_neg (fun hh => absurd hh.1 (by decide)), if_pos ⟨rfl, rfl⟩, provesOne, hp]
  cases hc : findC l h with
  | none => rw [hc] at hx; simp at hx
  | some c =>
    rw [hc] at hx
    have hx : c.super[i]? = some x := hx
    have hlt := (List.getElem?_eq_some_iff.1 hx).1
    simp only [hc]
    rw [if_pos ⟨by omega, by omega⟩]
    simpa using hx
theorem superL_proves {l : List ClassSig} {s : List InstSig} {hs : List Pred} {t : Ty} {want h : ByteArray} {p : Pf} (hp : provesP l s hs p t = some h) {f : ByteArray → Pf → List ByteArray → Option (Option Pf × List ByteArray)}
    (hf : ∀ x p seen r seen', provesP l s hs p t = some x → f x p seen = some (some r, seen') → provesP l s hs r t = some want) :
    ∀ (ss : List ByteArray) (i : Nat) (seen : List ByteArray) (r : Pf) (seen' : List ByteArray), (supOf l h).drop i = ss → superL f p i ss seen = some (some r, seen') → provesP l s hs r t = some want
  | [], i, seen, r, seen', _, hr => by rw [superL] at hr; simp at hr
  | x :: ss, i, seen, r, seen', hd, hr => by
    have hx : (supOf l h)[i]? = some x := by
      have := congrArg (fun z => z[0]?) hd
      simpa using this
    have hd2 : (supOf l h).drop (i + 1) = ss := by
      rw [← List.drop_drop, hd]; rfl
    rw [superL] at hr
    cases hc : f x (.mk 1 (i : Int) [p]) seen with
    | none => rw [hc] at hr; cases hr
    | some y =>
      obtain ⟨ro, s2⟩ := y
      rw [hc] at hr
      cases ro with
      | some z =>
        simp only [Option.some.injEq, Prod.mk.injEq] at hr
        obtain ⟨rfl, rfl⟩ := hr
        exact hf x _ seen _ _ (proves_super hp hx) hc
      | none => exact superL_proves hp hf ss (i + 1) s2 r seen' hd2 hr
theorem superP_proves {l : List ClassSig} {s : List InstSig} {hs : List Pred} {t : Ty} {want : ByteArray} : ∀ (q : Nat) (h : ByteArray) (p : Pf) (seen : List ByteArray) (r : Pf) (seen' : List ByteArray), provesP l s hs p t = some h → superP l want q h p seen = some (some r, seen') → provesP l s hs r t = some want
  | 0, _, _, _, _, _, _, hr => by cases hr
  | q + 1, h, p, seen, r, seen', hp, hr => by
    rw [superP] at hr
    split at hr
    · rename_i he
      simp only [Option.some.injEq, Prod.mk.injEq] at hr
      obtain ⟨rfl, _⟩ := hr
      rw [hp, he]
    · split at hr
      · simp at hr
      · exact superL_proves hp (fun x p seen r seen' h1 h2 => superP_proves q x p seen r seen' h1 h2) (supOf l h) 0 _ r seen' rfl hr
theorem proves_given {l : List ClassSig} {s : List InstSig} {hs : List Pred} {h : Pred} {t : Ty} {i : Nat} (hx : hs[i]? = some h) (hs' : sameB h.ty t = true) : provesP l s hs (.mk 0 (i : Int) []) t = some h.cls := by
  have hlt := (List.getElem?_eq_some_iff.1 hx).1
  rw [provesP, if_pos ⟨rfl, by omega, by omega, rfl⟩]
  simp [hx, hs']
theorem givenP_proves {l : List ClassSig} {s : List InstSig} {hs : List Pred} {want : Pred} {k : Nat} : ∀ (L : List Pred) (i : Nat) (p : Pf), hs.drop i = L → givenP l want k i L = some (some p) → provesP l s hs p want.ty = some want.cls
  | [], i, p, _, hr => by rw [givenP] at hr; simp at hr
  | h :: L, i, p, hd, hr => by
    have hx : hs[i]? = some h := by
      have := congrArg (fun z => z[0]?) hd
      simpa using this
    have hd2 : hs.drop (i + 1) = L := by
      rw [← List.drop_drop, hd]; rfl
    rw [givenP] at hr
    split at hr
    · rename_i hsm
      cases hc : superP l want.cls k h.cls (.mk 0 (i : Int) []) [] with
      | none => rw [hc] at hr; cases hr
      | some y =>
        obtain ⟨ro, s2⟩ := y
        rw [hc] at hr
        cases ro with
        | some z =>
          simp only [Option.some.injEq] at hr
          subst hr
          exact superP_proves k h.cls _ [] _ _ (proves_given hx hsm) hc
        | none => exact givenP_proves L (i + 1) p hd2 hr
    · exact givenP_proves L (i + 1) p hd2 hr
theorem instanceP_get {want : Pred} : ∀ {s : List InstSig} {i ii : Nat} {needs : List Pred}, instanceP want i s = some (ii, needs) → i ≤ ii ∧ ∃ x, s[ii - i]? = some x ∧ x.cls = want.cls
  | [], _, _, _, h => by cases h
  | x :: s, i, ii, needs, h => by
    rw [instanceP] at h
    split at h
    · rename_i hx
      simp only [Option.some.injEq, Prod.mk.injEq] at h
      obtain ⟨rfl, _⟩ := h
      unfold instHit at hx
      simp only [Bool.and_eq_true, decide_eq_true_eq] at hx
      exact ⟨Nat.le_refl _, x, by simp, hx.1.1.1⟩
    · obtain ⟨h1, y, h2, h3⟩ := instanceP_get h
      refine ⟨by omega, y, ?_, h3⟩
      rw [show ii - i = (ii - (i + 1)) + 1 by omega, List.getElem?_cons_succ]; exact h2
theorem entailL_proves {l : List ClassSig} {s : List InstSig} {hs : List Pred} {f : Pred → Int → Option (Pf × Int × Int)} (hf : ∀ n left p left', f n left = some (p, 0, left') → provesP l s hs p n.ty = some n.cls) :
    ∀ (needs : List Pred) (acc : List Pf) (left : Int) (subs : List Pf) (left' : Int), entailL f needs acc left = some (subs, 0, left') → ∃ R, subs = acc ++ R ∧ R.length = needs.length ∧ provesAll l s hs R needs = true
  | [], acc, left, subs, left', h => by
    rw [entailL] at h
    simp only [Option.some.injEq, Prod.mk.injEq, true_and] at h
    exact ⟨[], by simp [h.1], rfl, by rw [provesAll]⟩
  | n :: r, acc, left, subs, left', h => by
    rw [entailL] at h
    cases hc : f n left with
    | none => rw [hc] at h; cases h
    | some y =>
      obtain ⟨p, e, l1⟩ := y
      rw [hc] at h
      dsimp only at h
      split at h
      · rename_i he
        simp only [Option.some.injEq, Prod.mk.injEq] at h
        exact absurd h.2.1 he
      · rename_i he
        have he : e = 0 := Classical.not_not.1 he
        subst he
        obtain ⟨R, h1, h2, h3⟩ := entailL_proves hf r (acc ++ [p]) l1 subs left' h
        refine ⟨p :: R, by rw [h1]; simp, by simp [h2], ?_⟩
        rw [provesAll, if_pos (hf n left p l1 hc)]
        exact h3
/-- What entail gives is a proof. -/
theorem entailP_proves {l : List ClassSig} {s : List InstSig} {hs : List Pred} {k : Nat} : ∀ (q : Nat) (want : Pred) (depth left : Int) (p : Pf) (left' : Int), entailP l s hs k q want depth left = some (p, 0, left') → provesP l s hs p want.ty = some want.cls
  | 0, _, _, _, _, _, h => by cases h
  | q + 1, want, depth, left, p, left', h => by
    rw [entailP] at h
    split at h
    · simp at h
    · cases hg : givenP l want k 0 hs with
      | none => rw [hg] at h; cases h
      | some g =>
        rw [hg] at h
        cases g with
        | some z =>
          simp only [Option.some.injEq, Prod.mk.injEq, true_and] at h
          rw [← h.1]
          exact givenP_proves hs 0 z rfl hg
        | none =>
          cases hin : instanceP want 0 s with
          | none => rw [hin] at h; simp at h
          | some y =>
            obtain ⟨i, needs⟩ := y
            rw [hin] at h
            dsimp only at h
            cases hL : entailL (fun n left => entailP l s hs k q n (depth + 1) left) needs [] (left - 1) with
            | none => rw [hL] at h; cases h
            | some z =>
              obtain ⟨subs, e, l1⟩ := z
              rw [hL] at h
              dsimp only at h
              split at h
              · rename_i he
                simp only [Option.some.injEq, Prod.mk.injEq] at h
                exact absurd h.2.1 he
              · rename_i he
                have he : e = 0 := Classical.not_not.1 he
                subst he
                simp only [Option.some.injEq, Prod.mk.injEq, true_and] at h
                rw [← h.1]
                obtain ⟨R, h1, h2, h3⟩ := entailL_proves (fun n left p left' hh => entailP_proves q n (depth + 1) left p left' hh) needs [] (left - 1) subs l1 hL
                rw [List.nil_append] at h1
                subst h1
                obtain ⟨_, x, hx, hxc⟩ := instanceP_get hin
                have hx : s[i]? = some x := by simpa using hx
                have hlt := (List.getElem?_eq_some_iff.1 hx).1
                rw [provesP, if_neg (fun hh => absurd hh.1 (by decide)), if_neg (fun hh => absurd hh.1 (by decide)), if_pos ⟨rfl, by omega, by omega⟩]
                have hw : (⟨want.cls, want.ty⟩ : Pred) = want := rfl
                simp [hx, hxc, hw, hin, h2, h3]
end Go.Proofs.YtdljlpogljjldaaDoor
