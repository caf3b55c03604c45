/- Reduce and Entail in plain words: what is reduced follows from what it comes down to. -/
import Derived.Test.YtdljlpogljjldaaDoorCEntail
namespace Go.Proofs.YtdljlpogljjldaaDoor
open Go.RowKit Go.Shelf Go.Sort

/-- superL with a total step. -/
theorem superL_total {l : List ClassSig} {f : ByteArray → Pf → List ByteArray → Option (Option Pf × List ByteArray)} {n : Nat}
    (hf : ∀ s p seen, (findC l s).isSome = true → Seen l seen → n ≤ seen.length → ∃ r seen', f s p seen = some (r, seen') ∧ Seen l seen' ∧ seen.length ≤ seen'.length) (p : Pf) :
    ∀ (ss : List ByteArray) (i : Nat) (seen : List ByteArray), (∀ s ∈ ss, (findC l s).isSome = true) → Seen l seen → n ≤ seen.length → ∃ r seen', superL f p i ss seen = some (r, seen') ∧ Seen l seen' ∧ seen.length ≤ seen'.length
  | [], i, seen, _, h, _ => ⟨none, seen, rfl, h, Nat.le_refl _⟩
  | s :: ss, i, seen, hk, h, hn => by
    obtain ⟨r, s1, h1, h2, h3⟩ := hf s (.mk 1 (i : Int) [p]) seen (hk s List.mem_cons_self) h hn
    rw [superL, h1]
    cases r with
    | some x => exact ⟨some x, s1, rfl, h2, h3⟩
    | none =>
      obtain ⟨r, s2, g1, g2, g3⟩ := superL_total hf p ss (i + 1) s1 (fun s hs => hk s (List.mem_cons_of_mem _ hs)) h2 (by omega)
      exact ⟨r, s2, g1, g2, by omega⟩
theorem superP_total {l : List ClassSig} (hK : Known l) (want : ByteArray) : ∀ (q : Nat) (have_ : ByteArray) (p : Pf) (seen : List ByteArray), (findC l have_).isSome = true → Seen l seen → l.length < q + seen.length → ∃ r seen', superP l want q have_ p seen = some (r, seen') ∧ Seen l seen' ∧ seen.length ≤ seen'.length
  | 0, have_, p, seen, _, h, hl => by have := h.len; omega
  | q + 1, have_, p, seen, hh, h, hl => by
    rw [superP]
    by_cases h1 : have_ = want
    · rw [if_pos h1]; exact ⟨_, _, rfl, h, Nat.le_refl _⟩
    · rw [if_neg h1]
      by_cases h2 : hasN seen have_ = true
      · rw [if_pos h2]; exact ⟨_, _, rfl, h, Nat.le_refl _⟩
      · rw [if_neg h2]
        have h3 : hasN seen have_ = false := by cases e : hasN seen have_ with | true => exact absurd e h2 | false => rfl
        have h4 := h.add hh h3
        have h5 : ∀ s ∈ supOf l have_, (findC l s).isSome = true := fun s hs => by
          unfold supOf at hs
          cases hc : findC l have_ with
          | none => rw [hc] at hs; cases hs
          | some c => rw [hc] at hs; exact hK c (findC_mem hc).1 s hs
        have h6 : (seen ++ [have_]).length = seen.length + 1 := by simp
        obtain ⟨r, s2, g1, g2, g3⟩ := superL_total (n := seen.length + 1) (fun s p seen' hs hS hn => superP_total hK want q s p seen' hs hS (by omega)) p (supOf l have_) 0 (seen ++ [have_]) h5 h4 (by omega)
        exact ⟨r, s2, g1, g2, by omega⟩
/-- The given requirements are searched to the end; one of the class and the type is found. -/
theorem givenP_total {l : List ClassSig} (hK : Known l) (want : Pred) {k : Nat} (hk : l.length < k) : ∀ (hs : List Pred) (i : Nat), (∀ h ∈ hs, (findC l h.cls).isSome = true) → ∃ r, givenP l want k i hs = some r ∧ ((∃ h ∈ hs, sameB h.ty want.ty = true ∧ h.cls = want.cls) → r.isSome = true)
  | [], i, _ => ⟨none, rfl, fun ⟨_, h, _⟩ => by cases h⟩
  | h :: hs, i, hk1 => by
    obtain ⟨r, g1, g2⟩ := givenP_total hK want hk hs (i + 1) (fun x hx => hk1 x (List.mem_cons_of_mem _ hx))
    rw [givenP]
    by_cases h1 : sameB h.ty want.ty = true
    · rw [if_pos h1]
      obtain ⟨r2, s2, e1, e2, e3⟩ := superP_total hK want.cls k h.cls (.mk 0 (i : Int) []) [] (hk1 h List.mem_cons_self) ⟨List.nodup_nil, fun y hy => by cases hy⟩ (by simpa using hk)
      rw [e1]
      cases r2 with
      | some x => exact ⟨some x, rfl, fun _ => rfl⟩
      | none =>
        refine ⟨r, g1, fun ⟨y, hy, y1, y2⟩ => ?_⟩
        rcases List.mem_cons.1 hy with rfl | hy
        · obtain ⟨k', rfl⟩ : ∃ k', k = k' + 1 := ⟨k - 1, by omega⟩
          rw [superP, if_pos y2] at e1
          cases e1
        · exact g2 ⟨y, hy, y1, y2⟩
    · rw [if_neg h1]
      refine ⟨r, g1, fun ⟨y, hy, y1, y2⟩ => ?_⟩
      rcases List.mem_cons.1 hy with rfl | hy
      · exact absurd y1 h1
      · exact g2 ⟨y, hy, y1, y2⟩
/-- A type that Check took, or a part of one. -/
def Chk (t : Ty) : Prop := ∃ left row depth, (chk t left row depth).1 = 0
theorem chks_arg (k : Int) : ∀ (l : List Ty) (i : Nat) (left depth : Int), (chks k l i left depth).1 = 0 → ∀ a ∈ l, Chk a
  | [], _, _, _, _ => fun a ha => by cases ha
  | x :: l, i, left, depth, h => by
    rw [chks] at h
    split at h
    · rename_i h1
      intro a ha
      rcases List.mem_cons.1 ha with rfl | ha
      · exact ⟨_, _, _, h1⟩
      · exact chks_arg k l _ _ _ h a ha
    · rename_i h1; exact absurd h h1
theorem chk_arg {t : Ty} (h : Chk t) {a : Ty} (ha : a ∈ t.args) : Chk a := by
  obtain ⟨left, row, depth, h⟩ := h
  cases t with
  | mk k n v l =>
    rw [chk] at h
    repeat' split at h
    all_goals first | (exact chks_arg _ _ _ _ _ h a ha) | (simp at h)
theorem chk_kind0 {t : Ty} (h : Chk t) (h0 : t.kind = 0) : (chk t 4096 false 1).1 = 0 ∧ t.args = [] ∧ t.name.toList = [] := by
  obtain ⟨left, row, depth, h⟩ := h
  cases t with
  | mk k n v l =>
    have hk : k = 0 := h0
    subst hk
    rw [chk] at h
    split at h
    · simp at h
    split at h
    · simp at h
    split at h
    · simp at h
    rename_i h3
    split at h
    · simp at h
    split at h
    · simp at h
    rename_i h5
    have hl : l = [] := by
      have h6 : ¬ ((l.length : Int) ≠ sz 0) := fun hh => h3 (.inl ⟨by decide, hh⟩)
      have h7 : sz 0 = 0 := by decide
      cases l with
      | nil => rfl
      | cons _ _ => rw [h7] at h6; exact absurd (by simp; omega) h6
    subst hl
    have hn : n.toList = [] := by
      cases e : n.toList with
      | nil => rfl
      | cons _ _ => exact absurd (.inr (.inr ⟨by decide, by decide, by rw [e]; rfl⟩)) h3
    refine ⟨?_, rfl, hn⟩
    rw [chk, if_neg (by decide), if_neg (by decide), if_neg h3, if_neg (by decide), if_neg h5]
    rfl
theorem normP_v (n : ByteArray) (v : Int) : normP (.mk 0 n v []) = .mk 0 n v [] := by
  rw [normP, rowP, if_neg (by decide)]; rfl
theorem same_vars {a b : Ty} (ha : Chk a) (hb : Chk b) (h0 : a.kind = 0) (h1 : b.kind = 0) (hv : a.var = b.var) : sameB a b = true := by
  obtain ⟨_, a2, a3⟩ := chk_kind0 ha h0
  obtain ⟨_, b2, b3⟩ := chk_kind0 hb h1
  cases a with
  | mk ka na va la =>
    cases b with
    | mk kb nb vb lb =>
      have e1 : ka = 0 := h0
      have e2 : kb = 0 := h1
      have e3 : la = [] := a2
      have e4 : lb = [] := b2
      have e5 : va = vb := hv
      have e6 : na.toList = [] := a3
      have e7 : nb.toList = [] := b3
      subst e1 e2 e3 e4 e5
      unfold sameB
      rw [normP_v, normP_v, eqT_unfold]
      show ((((0 : Int) == 0) && (na.toList == nb.toList)) && (va == va)) && eqBy eqT [] [] = true
      rw [e6, e7]
      simp [eqBy]
/-- What Reduce gathers: requirements on variables, of known classes. -/
def Gth (l : List ClassSig) (x : Pred) : Prop := x.ty.kind = 0 ∧ Chk x.ty ∧ (findC l x.cls).isSome = true
theorem reduceP_gets {l : List ClassSig} {insts : List InstSig} (hi : ∀ x ∈ insts, ∀ p ∈ x.preds, (findC l p.cls).isSome = true) : ∀ (q : Nat) (p : Pred) (depth left : Int) (out out' : List Pred) (left' : Int), 0 ≤ left →
    reduceP insts q p depth out left = some (0, out', left') → Chk p.ty → (findC l p.cls).isSome = true → (∀ x ∈ out, Gth l x) →
    0 ≤ left' ∧ left' ≤ left ∧ (∀ x ∈ out, x ∈ out') ∧ (∀ x ∈ out', Gth l x) ∧ (out'.length : Int) + left' ≤ out.length + left
  | 0, _, _, _, _, _, _, _, h, _, _, _ => by cases h
  | q + 1, p, depth, left, out, out', left', h0, h, hc, hk, ho => by
    rw [reduceP] at h
    split at h
    · simp at h
    rename_i h1
    have hl1 : 0 ≤ left - 1 := by omega
    split at h
    · rename_i hz
      simp only [Option.some.injEq, Prod.mk.injEq, true_and] at h
      obtain ⟨rfl, rfl⟩ := h
      refine ⟨hl1, by omega, ?_, ?_, ?_⟩
      · intro x hx
        split
        · exact hx
        · exact List.mem_append_left _ hx
      · intro x hx
        split at hx
        · exact ho x hx
        · rcases List.mem_append.1 hx with hx | hx
          · exact ho x hx
          · rw [List.mem_singleton.1 hx]; exact ⟨hz, hc, hk⟩
      · split
        · omega
        · simp; omega
    · split at h
      · simp at h
      · rename_i i needs hin
        obtain ⟨x, hx, _, hn, _, _⟩ := instanceP_some hin
        have key : ∀ (ns out : List Pred) (left : Int), (∀ n ∈ ns, Chk n.ty ∧ (findC l n.cls).isSome = true) → (∀ x ∈ out, Gth l x) → 0 ≤ left → reduceL (fun n out left => reduceP insts q n (depth + 1) out left) ns out left = some (0, out', left') →
            0 ≤ left' ∧ left' ≤ left ∧ (∀ x ∈ out, x ∈ out') ∧ (∀ x ∈ out', Gth l x) ∧ (out'.length : Int) + left' ≤ out.length + left := by
          intro ns
          induction ns with
          | nil =>
            intro out left _ ho h0 h
            rw [reduceL] at h
            simp only [Option.some.injEq, Prod.mk.injEq, true_and] at h
            obtain ⟨rfl, rfl⟩ := h
            exact ⟨h0, Int.le_refl _, fun _ h => h, ho, Int.le_refl _⟩
          | cons n ns ihn =>
            intro out left hns ho h0 h
            rw [reduceL] at h
            cases hr : reduceP insts q n (depth + 1) out left with
            | none => rw [hr] at h; cases h
            | some y =>
              obtain ⟨e, o1, l1⟩ := y
              rw [hr] at h
              dsimp only at h
              split at h
              · rename_i he
                simp only [Option.some.injEq, Prod.mk.injEq] at h
                exact absurd h.1 he
              · rename_i he
                have he : e = 0 := Classical.not_not.1 he
                subst he
                obtain ⟨a1, a2, a3, a4, a5⟩ := reduceP_gets hi q n (depth + 1) left out o1 l1 h0 hr (hns n List.mem_cons_self).1 (hns n List.mem_cons_self).2 ho
                obtain ⟨b1, b2, b3, b4, b5⟩ := ihn o1 l1 (fun m hm => hns m (List.mem_cons_of_mem _ hm)) a4 a1 h
                exact ⟨b1, by omega, fun x hx => b3 x (a3 x hx), b4, by omega⟩
        have hns : ∀ n ∈ needs, Chk n.ty ∧ (findC l n.cls).isSome = true := fun n hnn => by
          rw [hn] at hnn
          obtain ⟨g1, y, hy, g2⟩ := needs_mem hnn
          exact ⟨chk_arg hc g1, by rw [g2]; exact hi x hx y hy⟩
        obtain ⟨a1, a2, a3, a4, a5⟩ := key needs out (left - 1) hns ho hl1 h
        exact ⟨a1, by omega, a3, a4, by omega⟩
theorem reduceL_gets {l : List ClassSig} {insts : List InstSig} (hi : ∀ x ∈ insts, ∀ p ∈ x.preds, (findC l p.cls).isSome = true) (q : Nat) (depth : Int) : ∀ (ns out : List Pred) (left : Int) (out' : List Pred) (left' : Int), (∀ n ∈ ns, Chk n.ty ∧ (findC l n.cls).isSome = true) → (∀ x ∈ out, Gth l x) → 0 ≤ left → reduceL (fun n out left => reduceP insts q n (depth + 1) out left) ns out left = some (0, out', left') →
            0 ≤ left' ∧ left' ≤ left ∧ (∀ x ∈ out, x ∈ out') ∧ (∀ x ∈ out', Gth l x) ∧ (out'.length : Int) + left' ≤ out.length + left
  | [], out, left, out', left', _, ho, h0, h => by
    rw [reduceL] at h
    simp only [Option.some.injEq, Prod.mk.injEq, true_and] at h
    obtain ⟨rfl, rfl⟩ := h
    exact ⟨h0, Int.le_refl _, fun _ h => h, ho, Int.le_refl _⟩
  | n :: ns, out, left, out', left', hns, ho, h0, h => by
    rw [reduceL] at h
    cases hr : reduceP insts q n (depth + 1) out left with
    | none => rw [hr] at h; cases h
    | some y =>
      obtain ⟨e, o1, l1⟩ := y
      rw [hr] at h
      dsimp only at h
      split at h
      · rename_i he
        simp only [Option.some.injEq, Prod.mk.injEq] at h
        exact absurd h.1 he
      · rename_i he
        have he : e = 0 := Classical.not_not.1 he
        subst he
        obtain ⟨a1, a2, a3, a4, a5⟩ := reduceP_gets hi q n (depth + 1) left out o1 l1 h0 hr (hns n List.mem_cons_self).1 (hns n List.mem_cons_self).2 ho
        obtain ⟨b1, b2, b3, b4, b5⟩ := reduceL_gets hi q depth ns o1 l1 out' left' (fun m hm => hns m (List.mem_cons_of_mem _ hm)) a4 a1 h
        exact ⟨b1, by omega, fun x hx => b3 x (a3 x hx), b4, by omega⟩
/-- What is reduced follows from what is gathered, at no higher cost. -/
theorem reduceP_entails {l : List ClassSig} (hK : Known l) {insts : List InstSig} (hi : ∀ x ∈ insts, ∀ p ∈ x.preds, (findC l p.cls).isSome = true) {k : Nat} (hk : l.length < k) (given : List Pred) (hg : ∀ x ∈ given, Gth l x) : ∀ (q : Nat) (p : Pred) (depth left : Int) (out out' : List Pred) (left' : Int), 0 ≤ left →
    reduceP insts q p depth out left = some (0, out', left') → Chk p.ty → (findC l p.cls).isSome = true → (∀ x ∈ out, Gth l x) → (∀ x ∈ out', x ∈ given) → ∀ lE, left ≤ lE →
    ∃ pf lE', entailP l insts given k q p depth lE = some (pf, 0, lE') ∧ left' ≤ lE'
  | 0, _, _, _, _, _, _, _, h, _, _, _, _ => by cases h
  | q + 1, p, depth, left, out, out', left', h0, h, hc, hkn, ho, hgi => by
    intro lE hlE
    have hgets := reduceP_gets hi (q + 1) p depth left out out' left' h0 h hc hkn ho
    rw [reduceP] at h
    split at h
    · simp at h
    rename_i h1
    have hl1 : 0 ≤ left - 1 := by omega
    have h1' : ¬ (400 < depth ∨ lE - 1 < 0) := by omega
    obtain ⟨r, hr, hr2⟩ := givenP_total hK p hk given 0 (fun x hx => (hg x hx).2.2)
    have hl' : left' ≤ left - 1 := by
      split at h
      · simp only [Option.some.injEq, Prod.mk.injEq, true_and] at h; omega
      · split at h
        · simp at h
        · rename_i i needs hin
          obtain ⟨x, hx, _, hn, _, _⟩ := instanceP_some hin
          exact (reduceL_gets hi q depth needs out (left - 1) out' left' (fun n hnn => by
            rw [hn] at hnn
            obtain ⟨g1, y, hy, g2⟩ := needs_mem hnn
            exact ⟨chk_arg hc g1, by rw [g2]; exact hi x hx y hy⟩) ho hl1 h).2.1
    rw [entailP, if_neg h1', hr]
    cases r with
    | some pf => exact ⟨pf, lE - 1, rfl, by omega⟩
    | none =>
      split at h
      · rename_i hz
        exfalso
        have : ∃ y ∈ out', y.cls = p.cls ∧ y.ty.var = p.ty.var := by
          simp only [Option.some.injEq, Prod.mk.injEq, true_and] at h
          obtain ⟨rfl, _⟩ := h
          split
          · rename_i ha
            obtain ⟨y, hy, he⟩ := List.any_eq_true.1 ha
            simp only [Bool.and_eq_true, decide_eq_true_eq] at he
            exact ⟨y, hy, he⟩
          · exact ⟨p, by simp, rfl, rfl⟩
        obtain ⟨y, hy, y1, y2⟩ := this
        have hgy := hg y (hgi y hy)
        have := hr2 ⟨y, hgi y hy, same_vars hgy.2.1 hc hgy.1 hz y2, y1⟩
        cases this
      · cases hin : instanceP p 0 insts with
        | none => rw [hin] at h; simp at h
        | some z =>
          obtain ⟨i, needs⟩ := z
          rw [hin] at h
          dsimp only at h ⊢
          obtain ⟨x, hx, _, hn, _, _⟩ := instanceP_some hin
          have hns : ∀ n ∈ needs, Chk n.ty ∧ (findC l n.cls).isSome = true := fun n hnn => by
            rw [hn] at hnn
            obtain ⟨g1, y, hy, g2⟩ := needs_mem hnn
            exact ⟨chk_arg hc g1, by rw [g2]; exact hi x hx y hy⟩
          have key : ∀ (ns out : List Pred) (left lE : Int) (acc : List Pf), (∀ n ∈ ns, Chk n.ty ∧ (findC l n.cls).isSome = true) → (∀ x ∈ out, Gth l x) → 0 ≤ left → left ≤ lE → reduceL (fun n out left => reduceP insts q n (depth + 1) out left) ns out left = some (0, out', left') →
              ∃ subs lE', entailL (fun n left => entailP l insts given k q n (depth + 1) left) ns acc lE = some (subs, 0, lE') ∧ left' ≤ lE' := by
            intro ns
            induction ns with
            | nil =>
              intro out left lE acc _ ho h0 hle h
              rw [reduceL] at h
              simp only [Option.some.injEq, Prod.mk.injEq, true_and] at h
              obtain ⟨rfl, rfl⟩ := h
              exact ⟨acc, lE, rfl, hle⟩
            | cons n ns ihn =>
              intro out left lE acc hns ho h0 hle h
              rw [reduceL] at h
              cases hr : reduceP insts q n (depth + 1) out left with
              | none => rw [hr] at h; cases h
              | some y =>
                obtain ⟨e, o1, l1⟩ := y
                rw [hr] at h
                dsimp only at h
                split at h
                · rename_i he
                  simp only [Option.some.injEq, Prod.mk.injEq] at h
                  exact absurd h.1 he
                · rename_i he
                  have he : e = 0 := Classical.not_not.1 he
                  subst he
                  obtain ⟨a1, a2, a3, a4, a5⟩ := reduceP_gets hi q n (depth + 1) left out o1 l1 h0 hr (hns n List.mem_cons_self).1 (hns n List.mem_cons_self).2 ho
                  have hrest := reduceL_gets hi q depth ns o1 l1 out' left' (fun m hm => hns m (List.mem_cons_of_mem _ hm)) a4 a1 h
                  obtain ⟨pf, lE1, b1, b2⟩ := reduceP_entails hK hi hk given hg q n (depth + 1) left out o1 l1 h0 hr (hns n List.mem_cons_self).1 (hns n List.mem_cons_self).2 ho (fun x hx => hgi x (hrest.2.2.1 x hx)) lE hle
                  obtain ⟨subs, lE2, c1, c2⟩ := ihn o1 l1 lE1 (acc ++ [pf]) (fun m hm => hns m (List.mem_cons_of_mem _ hm)) a4 a1 b2 h
                  refine ⟨subs, lE2, ?_, c2⟩
                  rw [entailL, b1]
                  exact c1
          obtain ⟨subs, lE', g1, g2⟩ := key needs out (left - 1) (lE - 1) [] hns ho hl1 (by omega) h
          rw [g1]
          exact ⟨_, lE', rfl, g2⟩
/-- Enough fuel for Reduce. -/
theorem reduceP_total (insts : List InstSig) : ∀ (q : Nat) (p : Pred) (depth left : Int) (out : List Pred), 0 < q → 402 ≤ (q : Int) + depth → ∃ r, reduceP insts q p depth out left = some r
  | 0, _, _, _, _, h, _ => absurd h (by decide)
  | q + 1, p, depth, left, out, _, h => by
    rw [reduceP]
    split
    · exact ⟨_, rfl⟩
    · rename_i h1
      split
      · exact ⟨_, rfl⟩
      · split
        · exact ⟨_, rfl⟩
        · rename_i i needs _
          have hd : ¬ 400 < depth := fun hh => h1 (.inl hh)
          have key : ∀ (ns out : List Pred) (left : Int), ∃ r, reduceL (fun n out left => reduceP insts q n (depth + 1) out left) ns out left = some r := by
            intro ns
            induction ns with
            | nil => intro out left; exact ⟨_, rfl⟩
            | cons n ns ihn =>
              intro out left
              rw [reduceL]
              obtain ⟨r, hr⟩ := reduceP_total insts q n (depth + 1) left out (by omega) (by omega)
              rw [hr]
              obtain ⟨e, o1, l1⟩ := r
              dsimp only
              split
              · exact ⟨_, rfl⟩
              · exact ihn o1 l1
          exact key needs out _
theorem reducesP_total (insts : List InstSig) : ∀ (preds out : List Pred) (left : Int), ∃ r, reducesP insts 402 preds out left = some r
  | [], out, left => ⟨_, rfl⟩
  | p :: r, out, left => by
    rw [reducesP]
    split
    · exact ⟨_, rfl⟩
    · obtain ⟨z, hz⟩ := reduceP_total insts 402 p 1 left out (by decide) (by decide)
      rw [hz]
      obtain ⟨e, o1, l1⟩ := z
      dsimp only
      split
      · exact ⟨_, rfl⟩
      · exact reducesP_total insts r o1 l1
theorem reduceS_total (l : List ClassSig) (insts : List InstSig) (preds : List Pred) : ∃ e out, reduceS l insts preds 402 = some (e, out) := by
  rw [reduceS]
  split
  · exact ⟨_, _, rfl⟩
  · obtain ⟨⟨e, out⟩, h⟩ := reducesP_total insts preds [] 4096
    exact ⟨e, out, h⟩
mutual
/-- What comes down is of variables alone, and not more than was spent. -/
theorem reduceP_len (insts : List InstSig) : ∀ (q : Nat) (p : Pred) (depth left : Int) (out out' : List Pred) (e left' : Int), 0 ≤ left → reduceP insts q p depth out left = some (e, out', left') →
    -1 ≤ left' ∧ left' ≤ left - 1 ∧ (e = 0 → 0 ≤ left') ∧ (out'.length : Int) + left' ≤ out.length + left ∧ ((∀ x ∈ out, x.ty.kind = 0) → ∀ x ∈ out', x.ty.kind = 0)
  | 0, _, _, _, _, _, _, _, _, h => by cases h
  | q + 1, p, depth, left, out, out', e, left', h0, h => by
    rw [reduceP] at h
    split at h
    · rename_i h1
      simp only [Option.some.injEq, Prod.mk.injEq] at h
      obtain ⟨rfl, rfl, rfl⟩ := h
      exact ⟨by omega, Int.le_refl _, fun h => absurd h (by decide), by omega, fun h => h⟩
    rename_i h1
    split at h
    · rename_i hz
      simp only [Option.some.injEq, Prod.mk.injEq] at h
      obtain ⟨rfl, rfl, rfl⟩ := h
      refine ⟨by omega, Int.le_refl _, fun _ => by omega, ?_, fun ho x hx => ?_⟩
      · split
        · omega
        · simp; omega
      · split at hx
        · exact ho x hx
        · rcases List.mem_append.1 hx with hx | hx
          · exact ho x hx
          · rw [List.mem_singleton.1 hx]; exact hz
    · split at h
      · simp only [Option.some.injEq, Prod.mk.injEq] at h
        obtain ⟨rfl, rfl, rfl⟩ := h
        exact ⟨by omega, Int.le_refl _, fun h => absurd h (by decide), by omega, fun h => h⟩
      · rename_i i needs hin
        obtain ⟨a1, a2, a3, a4, a5⟩ := reduceL_len insts q depth needs out (left - 1) out' e left' (by omega) h
        exact ⟨a1, by omega, a3, by omega, a5⟩
theorem reduceL_len (insts : List InstSig) (q : Nat) (depth : Int) : ∀ (ns out : List Pred) (left : Int) (out' : List Pred) (e left' : Int), 0 ≤ left → reduceL (fun n out left => reduceP insts q n (depth + 1) out left) ns out left = some (e, out', left') →
    -1 ≤ left' ∧ left' ≤ left ∧ (e = 0 → 0 ≤ left') ∧ (out'.length : Int) + left' ≤ out.length + left ∧ ((∀ x ∈ out, x.ty.kind = 0) → ∀ x ∈ out', x.ty.kind = 0)
  | [], out, left, out', e, left', h0, h => by
    rw [reduceL] at h
    simp only [Option.some.injEq, Prod.mk.injEq] at h
    obtain ⟨rfl, rfl, rfl⟩ := h
    exact ⟨by omega, Int.le_refl _, fun _ => h0, Int.le_refl _, fun h => h⟩
  | n :: ns, out, left, out', e, left', h0, h => by
    rw [reduceL] at h
    cases hr : reduceP insts q n (depth + 1) out left with
    | none => rw [hr] at h; cases h
    | some y =>
      obtain ⟨e1, o1, l1⟩ := y
      rw [hr] at h
      dsimp only at h
      obtain ⟨a1, a2, a3, a4, a5⟩ := reduceP_len insts q n (depth + 1) left out o1 e1 l1 h0 hr
      split at h
      · rename_i he
        simp only [Option.some.injEq, Prod.mk.injEq] at h
        obtain ⟨rfl, rfl, rfl⟩ := h
        exact ⟨a1, by omega, a3, a4, a5⟩
      · rename_i he
        have he : e1 = 0 := Classical.not_not.1 he
        obtain ⟨b1, b2, b3, b4, b5⟩ := reduceL_len insts q depth ns o1 l1 out' e left' (a3 he) h
        exact ⟨b1, by omega, b3, by omega, fun ho => b5 (a5 ho)⟩
end
/-- What the whole of Reduce answers. -/
theorem reducesP_ok (insts : List InstSig) (q : Nat) : ∀ (preds out : List Pred) (left : Int) (fin_ : List Pred) (e : Int), 0 ≤ left → reducesP insts q preds out left = some (e, fin_) →
    (e ≠ 0 → fin_ = []) ∧ (e = 0 → (fin_.length : Int) ≤ out.length + left ∧ ((∀ x ∈ out, x.ty.kind = 0) → ∀ x ∈ fin_, x.ty.kind = 0))
  | [], out, left, fin_, e, h0, h => by
    rw [reducesP] at h
    simp only [Option.some.injEq, Prod.mk.injEq] at h
    obtain ⟨rfl, rfl⟩ := h
    exact ⟨fun h => absurd rfl h, fun _ => ⟨by omega, fun h => h⟩⟩
  | p :: r, out, left, fin_, e, h0, h => by
    rw [reducesP] at h
    split at h
    · rename_i h1
      simp only [Option.some.injEq, Prod.mk.injEq] at h
      obtain ⟨rfl, rfl⟩ := h
      exact ⟨fun _ => rfl, fun h => absurd h h1⟩
    · cases hr : reduceP insts q p 1 out left with
      | none => rw [hr] at h; cases h
      | some y =>
        obtain ⟨e1, o1, l1⟩ := y
        rw [hr] at h
        dsimp only at h
        obtain ⟨a1, a2, a3, a4, a5⟩ := reduceP_len insts q p 1 left out o1 e1 l1 h0 hr
        split at h
        · rename_i he
          simp only [Option.some.injEq, Prod.mk.injEq] at h
          obtain ⟨rfl, rfl⟩ := h
          exact ⟨fun _ => rfl, fun h => absurd h he⟩
        · rename_i he
          obtain ⟨b1, b2⟩ := reducesP_ok insts q r o1 l1 fin_ e (a3 (Classical.not_not.1 he)) h
          exact ⟨b1, fun h => ⟨by have := (b2 h).1; omega, fun ho => (b2 h).2 (a5 ho)⟩⟩
theorem reducesP_gets {l : List ClassSig} (hK : Known l) {insts : List InstSig} (hi : ∀ x ∈ insts, ∀ p ∈ x.preds, (findC l p.cls).isSome = true) {k : Nat} (hk : l.length < k) (q : Nat) : ∀ (preds out : List Pred) (left : Int) (fin_ : List Pred), 0 ≤ left → left ≤ 4096 → reducesP insts q preds out left = some (0, fin_) →
    (∀ p ∈ preds, (findC l p.cls).isSome = true) → (∀ x ∈ out, Gth l x) →
    (∀ x ∈ out, x ∈ fin_) ∧ (∀ x ∈ fin_, Gth l x) ∧ ∀ given : List Pred, (∀ x ∈ given, Gth l x) → (∀ x ∈ fin_, x ∈ given) → ∀ p ∈ preds, (chk p.ty 4096 false 1).1 = 0 ∧ ∃ pf lE, entailP l insts given k q p 1 4096 = some (pf, 0, lE)
  | [], out, left, fin_, _, _, h, _, ho => by
    rw [reducesP] at h
    simp only [Option.some.injEq, Prod.mk.injEq, true_and] at h
    subst h
    exact ⟨fun _ h => h, ho, fun _ _ _ p hp => by cases hp⟩
  | p :: r, out, left, fin_, h0, h4, h, hkn, ho => by
    rw [reducesP] at h
    split at h
    · rename_i h1
      simp only [Option.some.injEq, Prod.mk.injEq] at h
      exact absurd h.1 h1
    · rename_i h1
      have hc1 : (chk p.ty 4096 false 1).1 = 0 := Classical.not_not.1 h1
      have hc : Chk p.ty := ⟨_, _, _, hc1⟩
      cases hr : reduceP insts q p 1 out left with
      | none => rw [hr] at h; cases h
      | some y =>
        obtain ⟨e1, o1, l1⟩ := y
        rw [hr] at h
        dsimp only at h
        split at h
        · rename_i he
          simp only [Option.some.injEq, Prod.mk.injEq] at h
          exact absurd h.1 he
        · rename_i he
          have he : e1 = 0 := Classical.not_not.1 he
          subst he
          obtain ⟨a1, a2, a3, a4, a5⟩ := reduceP_gets hi q p 1 left out o1 l1 h0 hr hc (hkn p List.mem_cons_self) ho
          obtain ⟨b1, b2, b3⟩ := reducesP_gets hK hi hk q r o1 l1 fin_ a1 (by omega) h (fun x hx => hkn x (List.mem_cons_of_mem _ hx)) a4
          refine ⟨fun x hx => b1 x (a3 x hx), b2, fun given hg hgi y hy => ?_⟩
          rcases List.mem_cons.1 hy with rfl | hy
          · obtain ⟨pf, lE, e1, _⟩ := reduceP_entails hK hi hk given hg q y 1 left out o1 l1 h0 hr hc (hkn y List.mem_cons_self) ho (fun x hx => hgi x (b1 x hx)) 4096 h4
            exact ⟨hc1, pf, lE, e1⟩
          · exact b3 given hg hgi y hy
theorem givenErr_zero {l : List ClassSig} : ∀ {hs : List Pred}, (∀ h ∈ hs, (findC l h.cls).isSome = true ∧ (chk h.ty 4096 false 1).1 = 0) → givenErr l hs = 0
  | [], _ => rfl
  | p :: r, h => by
    have h1 := h p List.mem_cons_self
    rw [givenErr, if_neg (by rw [h1.1]; decide), if_neg (fun hh => hh h1.2)]
    exact givenErr_zero (fun x hx => h x (List.mem_cons_of_mem _ hx))
/-- The plain law of ClassesReduced. -/
theorem reduced_entails {l : List ClassSig} {insts : List InstSig} {preds out : List Pred} (h : reduceS l insts preds 402 = some (0, out)) (hkn : ∀ p ∈ preds, (findC l p.cls).isSome = true) :
    ∀ p ∈ preds, ∃ pf, entailS l insts out p (l.length + 1) 402 = some (pf, 0) := by
  intro p hp
  rw [reduceS] at h
  split at h
  · rename_i h1
    simp only [Option.some.injEq, Prod.mk.injEq] at h
    exact absurd h.1 h1
  · rename_i h1
    have hic : instC l insts = 0 := Classical.not_not.1 h1
    have hin := instC_ok hic
    obtain ⟨_, b2, b3⟩ := reducesP_gets hin.1.1 (fun x hx p hp => ((hin.2.2 x hx).2.2 p hp).1) (Nat.lt_succ_self _) 402 preds [] 4096 out (by decide) (by decide) h hkn (fun x hx => by cases hx)
    obtain ⟨c1, pf, lE, c2⟩ := b3 out b2 (fun _ h => h) p hp
    have hlen := ((reducesP_ok insts 402 preds [] 4096 out 0 (by decide) h).2 rfl).1
    have hl : ¬ 4096 < out.length := by simp at hlen; omega
    have hge : givenErr l (out ++ [p]) = 0 := givenErr_zero (fun x hx => by
      rcases List.mem_append.1 hx with hx | hx
      · have := b2 x hx
        exact ⟨this.2.2, (chk_kind0 this.2.1 this.1).1⟩
      · rw [List.mem_singleton.1 hx]; exact ⟨hkn p hp, c1⟩)
    refine ⟨pf, ?_⟩
    rw [entailS, if_neg h1, if_neg hl, hge, if_neg (by decide), c2]
theorem reduced_ok {l : List ClassSig} {insts : List InstSig} {preds out : List Pred} {e : Int} (h : reduceS l insts preds 402 = some (e, out)) : (e ≠ 0 → out = []) ∧ (e = 0 → out.length ≤ 4096 ∧ ∀ x ∈ out, x.ty.kind = 0) := by
  rw [reduceS] at h
  split at h
  · rename_i h1
    simp only [Option.some.injEq, Prod.mk.injEq] at h
    obtain ⟨rfl, rfl⟩ := h
    exact ⟨fun _ => rfl, fun h => absurd h h1⟩
  · obtain ⟨a, b⟩ := reducesP_ok insts 402 preds [] 4096 out e (by decide) h
    exact ⟨a, fun h => ⟨by have := (b h).1; simp at this; omega, (b h).2 (fun x hx => by cases hx)⟩⟩
end Go.Proofs.YtdljlpogljjldaaDoor
