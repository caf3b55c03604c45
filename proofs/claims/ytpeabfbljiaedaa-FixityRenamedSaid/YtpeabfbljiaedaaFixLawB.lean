/- What a tree that fixity.Build returned without an error holds: as many nodes as items, and the items in order. No conditions. -/
import Derived.Test.YtpeabfbljiaedaaFixWalk
namespace Go.Proofs.Ytpeabfbljiaedaa
open Go.RowKit

theorem fixLoop_len (T : List FixSig) (I : List FixItem) : ∀ (n : Nat) (least : Int) (outer last : FixSig) (left : Nat) (s : FixSt),
    (fixLoop T I n least outer last left s).1.out.length + s.at_ = (fixLoop T I n least outer last left s).1.at_ + s.out.length := by
  intro n
  induction n with
  | zero => intro least outer last left s; simp only [fixLoop]; omega
  | succ n ih =>
    intro least outer last left s
    rw [fixLoop]
    by_cases c1 : s.e ≠ 0 ∨ I.length ≤ s.at_
    · rw [if_pos c1]; simp only; omega
    · rw [if_neg c1]
      by_cases c2 : (fixFind T (opAt I s.at_)).level < least
      · rw [if_pos c2]; simp only; omega
      · rw [if_neg c2]
        by_cases c3 : (fixAgainst (fixFind T (opAt I s.at_)) outer || fixAgainst (fixFind T (opAt I s.at_)) last) = true
        · rw [if_pos c3]; simp only; omega
        · rw [if_neg c3]
          simp only
          have i1 := ih (nextLevel (fixFind T (opAt I s.at_))) (fixFind T (opAt I s.at_)) (fixFind T (opAt I s.at_)) s.out.length (readLeaf I ⟨s.at_ + 1, s.out, s.e⟩)
          generalize fixLoop T I n (nextLevel (fixFind T (opAt I s.at_))) (fixFind T (opAt I s.at_)) (fixFind T (opAt I s.at_)) s.out.length (readLeaf I ⟨s.at_ + 1, s.out, s.e⟩) = r at *
          simp only [readLeaf, List.length_append, List.length_cons, List.length_nil] at i1
          have i2 := ih least outer (fixFind T (opAt I s.at_)) r.1.out.length ⟨r.1.at_, r.1.out ++ [⟨(fixFind T (opAt I s.at_)).op, 0, left, r.2⟩], r.1.e⟩
          generalize fixLoop T I n least outer (fixFind T (opAt I s.at_)) r.1.out.length ⟨r.1.at_, r.1.out ++ [⟨(fixFind T (opAt I s.at_)).op, 0, left, r.2⟩], r.1.e⟩ = q at *
          simp only [List.length_append, List.length_cons, List.length_nil] at i2
          omega

/-- What Build's success means. -/
structure Built (T : List FixSig) (I : List FixItem) (t : List FixNode) : Prop where
  check : fixCheck T = 0
  short : I.length ≤ 400
  odd : I.length % 2 = 1
  alt : fixAltFrom 0 I = true
  run : (fixRun T I).1.e = 0
  tree : t = (fixRun T I).1.out
theorem built_of {T : List FixSig} {I : List FixItem} (h : (fixBuild T I).2 = 0) : Built T I (fixBuild T I).1 := by
  unfold fixBuild at h ⊢
  by_cases c1 : fixCheck T ≠ 0
  · rw [if_pos c1] at h; exact absurd h c1
  · rw [if_neg c1] at h ⊢
    by_cases c2 : 400 < I.length
    · rw [if_pos c2] at h; simp at h
    · rw [if_neg c2] at h ⊢
      by_cases c3 : I.length % 2 = 0
      · rw [if_pos c3] at h; simp at h
      · rw [if_neg c3] at h ⊢
        by_cases c4 : fixAltFrom 0 I = false
        · rw [if_pos c4] at h; simp at h
        · rw [if_neg c4] at h ⊢
          by_cases c5 : (fixRun T I).1.e ≠ 0
          · rw [if_pos c5] at h; exact absurd h c5
          · rw [if_neg c5]
            exact ⟨by omega, by omega, by omega, by simpa using c4, by omega, rfl⟩

theorem seg_all (I : List FixItem) (h : ∀ i, (hi : i < I.length) → itemAt I i = I[i]) : seg I 0 I.length = I := by
  unfold seg
  apply List.ext_getElem
  · simp
  · intro i h1 h2
    simp at h1
    simp [h i h1]

theorem built_items {T : List FixSig} {I : List FixItem} {t : List FixNode} (h : Built T I t) (hz : ∀ k, (hk : k < I.length) → I[k].op ≠ noOp → I[k].n = 0) :
    t.length = I.length ∧ NodesOk T I t ∧ walkT t t.length (t.length - 1) = I := by
  have ho := fixRun_out h.check h.odd h.alt
  have hl := fixLoop_len T I I.length 0 fixStart fixStart 0 (readLeaf I ⟨0, [], 0⟩)
  have hg := fixLoop_grow T I h.odd I.length 0 fixStart fixStart 0 (readLeaf I ⟨0, [], 0⟩) (by simp [readLeaf]) (by have := h.odd; simp [readLeaf]; omega)
  rw [show fixLoop T I I.length 0 fixStart fixStart 0 (readLeaf I ⟨0, [], 0⟩) = fixRun T I from rfl] at hl hg
  have he := h.run
  obtain ⟨r, hr⟩ : ∃ r, fixRun T I = r := ⟨_, rfl⟩
  have ht := h.tree
  rw [hr] at ho hl hg ht he
  subst ht
  have hT := fixCheck_zero h.check
  have hat : r.1.at_ = I.length := by
    rcases Nat.lt_or_ge r.1.at_ I.length with h1 | h1
    · have h2 := ho.stop he h1
      have h3 := fixFind_level T (fun x hx => ⟨(hT x hx).2.2.2.1, (hT x hx).2.2.2.2⟩) (opAt I r.1.at_)
      omega
    · have := hg.2.2.1; omega
  have hlen : r.1.out.length = I.length := by simp [readLeaf] at hl; omega
  refine ⟨hlen, ho.ok, ?_⟩
  have h0 := ho.len
  rw [show r.1.out.length - 1 = r.2 by omega, ← h0, ho.items]
  have alt := fixAlt_all I 0 h.alt
  have w0 : walkT (readLeaf I ⟨0, [], 0⟩).out (0 + 1) 0 = seg I 0 1 := by
    rw [seg_one]
    simp [readLeaf, walkT, nodeAt, leafOf, itemAt]
  rw [w0]
  show seg I 0 1 ++ seg I 1 r.1.at_ = I
  rw [seg_app I 0 1 r.1.at_ (by omega) (by have := h.odd; omega), hat]
  apply seg_all
  intro i hi
  have hi2 := alt i hi
  rw [Nat.zero_add] at hi2
  unfold itemAt
  split
  · rename_i he2
    have := hi2.2 he2
    simp only [List.getD_eq_getElem?_getD, List.getElem?_eq_getElem hi, Option.getD_some]
    rw [← this]
  · rename_i he2
    have hne : I[i].op ≠ noOp := fun h => he2 (hi2.1 h)
    rw [opAt_get I i hi, ← hz i hi hne]
end Go.Proofs.Ytpeabfbljiaedaa
