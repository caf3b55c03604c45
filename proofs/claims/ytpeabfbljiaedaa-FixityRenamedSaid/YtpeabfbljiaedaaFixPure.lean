/- What fixity's climb computes, as a plain function with fuel, and its first laws. No program in sight. -/
import Derived.Test.YtpeabfbljiaedaaFixCheck
import Derived.Test.YtpeabfbljiaedaaFixFind
namespace Go.Proofs.Ytpeabfbljiaedaa
open Go.RowKit

def fixAgainst (x y : FixSig) : Bool := x.level == y.level && (x.side != y.side || x.side == 2)

theorem Blk.ne_own {w : World} {g : Nat} {t : TypeId} {cs : List Value} (hg : Blk w g t cs) {base : Nat} {e : TypeId} {size n : Nat} {v : Value} {xs : List Value} (h : w.ownsRow base e size v n xs) (hne : e ≠ t) : v.ownBlock ≠ some g :=
  own_ne_blk h hg hne

structure FixSt where
  at_ : Nat
  out : List FixNode
  e : Int

def noOp : ByteArray := ⟨#[]⟩
def leafOf (I : List FixItem) (i : Nat) : FixNode := ⟨noOp, (I.getD i ⟨noOp, 0⟩).n, 0, 0⟩
def opAt (I : List FixItem) (i : Nat) : ByteArray := (I.getD i ⟨noOp, 0⟩).op
/-- The next level that a right operand asks for. -/
def nextLevel (x : FixSig) : Int := if x.side == 1 then x.level else x.level + 1
/-- An operand is read. -/
def readLeaf (I : List FixItem) (s : FixSt) : FixSt := ⟨s.at_ + 1, s.out ++ [leafOf I s.at_], s.e⟩

/-- The loop of climb: operators of at least a level, behind an operand; the state and the number of the tree's root. -/
def fixLoop (T : List FixSig) (I : List FixItem) : Nat → Int → FixSig → FixSig → Nat → FixSt → FixSt × Nat
  | 0, _, _, _, left, s => (s, left)
  | n + 1, least, outer, last, left, s =>
    if s.e ≠ 0 ∨ I.length ≤ s.at_ then (s, left)
    else if (fixFind T (opAt I s.at_)).level < least then (s, left)
    else if (fixAgainst (fixFind T (opAt I s.at_)) outer || fixAgainst (fixFind T (opAt I s.at_)) last) = true then (⟨s.at_, s.out, 5⟩, left)
    else
      let r := fixLoop T I n (nextLevel (fixFind T (opAt I s.at_))) (fixFind T (opAt I s.at_)) (fixFind T (opAt I s.at_)) s.out.length (readLeaf I ⟨s.at_ + 1, s.out, s.e⟩)
      fixLoop T I n least outer (fixFind T (opAt I s.at_)) r.1.out.length ⟨r.1.at_, r.1.out ++ [⟨(fixFind T (opAt I s.at_)).op, 0, left, r.2⟩], r.1.e⟩

/-- Where the loop ends up: places and numbers of nodes. -/
theorem fixLoop_grow (T : List FixSig) (I : List FixItem) (hodd : I.length % 2 = 1) : ∀ (n : Nat) (least : Int) (outer last : FixSig) (left : Nat) (s : FixSt), s.at_ % 2 = 1 → s.at_ ≤ I.length →
    s.at_ ≤ (fixLoop T I n least outer last left s).1.at_ ∧ (fixLoop T I n least outer last left s).1.at_ % 2 = 1 ∧ (fixLoop T I n least outer last left s).1.at_ ≤ I.length ∧
    (fixLoop T I n least outer last left s).1.out.length + s.at_ ≤ (fixLoop T I n least outer last left s).1.at_ + s.out.length ∧ s.out.length ≤ (fixLoop T I n least outer last left s).1.out.length := by
  intro n
  induction n with
  | zero => intro least outer last left s h1 h2; simp only [fixLoop]; omega
  | succ n ih =>
    intro least outer last left s h1 h2
    rw [fixLoop]
    by_cases c1 : s.e ≠ 0 ∨ I.length ≤ s.at_
    · rw [if_pos c1]; refine ⟨?_, ?_, ?_, ?_, ?_⟩ <;> simp only <;> omega
    · rw [if_neg c1]
      by_cases c2 : (fixFind T (opAt I s.at_)).level < least
      · rw [if_pos c2]; refine ⟨?_, ?_, ?_, ?_, ?_⟩ <;> simp only <;> omega
      · rw [if_neg c2]
        by_cases c3 : (fixAgainst (fixFind T (opAt I s.at_)) outer || fixAgainst (fixFind T (opAt I s.at_)) last) = true
        · rw [if_pos c3]; refine ⟨?_, ?_, ?_, ?_, ?_⟩ <;> simp only <;> omega
        · rw [if_neg c3]
          simp only
          have hlt : s.at_ < I.length := by
            rcases Nat.lt_or_ge s.at_ I.length with h | h
            · exact h
            · exact absurd (Or.inr h) c1
          have i1 := ih (nextLevel (fixFind T (opAt I s.at_))) (fixFind T (opAt I s.at_)) (fixFind T (opAt I s.at_)) s.out.length (readLeaf I ⟨s.at_ + 1, s.out, s.e⟩) (by simp [readLeaf]; omega) (by simp [readLeaf]; omega)
          generalize fixLoop T I n (nextLevel (fixFind T (opAt I s.at_))) (fixFind T (opAt I s.at_)) (fixFind T (opAt I s.at_)) s.out.length (readLeaf I ⟨s.at_ + 1, s.out, s.e⟩) = r at *
          obtain ⟨a1, a2, a3, a4, a5⟩ := i1
          simp only [readLeaf, List.length_append, List.length_cons, List.length_nil] at a1 a4 a5
          have i2 := ih least outer (fixFind T (opAt I s.at_)) r.1.out.length ⟨r.1.at_, r.1.out ++ [⟨(fixFind T (opAt I s.at_)).op, 0, left, r.2⟩], r.1.e⟩ a2 a3
          generalize fixLoop T I n least outer (fixFind T (opAt I s.at_)) r.1.out.length ⟨r.1.at_, r.1.out ++ [⟨(fixFind T (opAt I s.at_)).op, 0, left, r.2⟩], r.1.e⟩ = q at *
          obtain ⟨b1, b2, b3, b4, b5⟩ := i2
          simp only [List.length_append, List.length_cons, List.length_nil] at b1 b4 b5
          refine ⟨?_, b2, b3, ?_, ?_⟩ <;> omega

theorem fixLoop_stop (T : List FixSig) (I : List FixItem) (n : Nat) (least : Int) (outer last : FixSig) (left : Nat) (s : FixSt) (h : s.e ≠ 0 ∨ I.length ≤ s.at_) : fixLoop T I n least outer last left s = (s, left) := by
  cases n with
  | zero => rfl
  | succ n => rw [fixLoop, if_pos h]
theorem fixLoop_low (T : List FixSig) (I : List FixItem) (n : Nat) (least : Int) (outer last : FixSig) (left : Nat) (s : FixSt) (h : ¬ (s.e ≠ 0 ∨ I.length ≤ s.at_)) (x : FixSig) (hx : fixFind T (opAt I s.at_) = x) (h2 : x.level < least) :
    fixLoop T I (n + 1) least outer last left s = (s, left) := by
  subst hx; rw [fixLoop, if_neg h, if_pos h2]
theorem fixLoop_bad (T : List FixSig) (I : List FixItem) (n : Nat) (least : Int) (outer last : FixSig) (left : Nat) (s : FixSt) (h : ¬ (s.e ≠ 0 ∨ I.length ≤ s.at_)) (x : FixSig) (hx : fixFind T (opAt I s.at_) = x) (h2 : ¬ x.level < least)
    (h3 : (fixAgainst x outer || fixAgainst x last) = true) : fixLoop T I (n + 1) least outer last left s = (⟨s.at_, s.out, 5⟩, left) := by
  subst hx; rw [fixLoop, if_neg h, if_neg h2, if_pos h3]
theorem fixLoop_on (T : List FixSig) (I : List FixItem) (n : Nat) (least : Int) (outer last : FixSig) (left : Nat) (s : FixSt) (h : ¬ (s.e ≠ 0 ∨ I.length ≤ s.at_)) (x : FixSig) (hx : fixFind T (opAt I s.at_) = x) (h2 : ¬ x.level < least)
    (h3 : (fixAgainst x outer || fixAgainst x last) = false) (r : FixSt × Nat) (hr : fixLoop T I n (nextLevel x) x x s.out.length (readLeaf I ⟨s.at_ + 1, s.out, s.e⟩) = r) :
    fixLoop T I (n + 1) least outer last left s = fixLoop T I n least outer x r.1.out.length ⟨r.1.at_, r.1.out ++ [⟨x.op, 0, left, r.2⟩], r.1.e⟩ := by
  subst hx; subst hr; rw [fixLoop, if_neg h, if_neg h2, if_neg (by rw [h3]; simp)]
theorem fixFind_level (T : List FixSig) (hT : ∀ x ∈ T, 0 ≤ x.level ∧ x.level ≤ 9) (op : ByteArray) : 0 ≤ (fixFind T op).level ∧ (fixFind T op).level ≤ 9 := by
  induction T with
  | nil => simp [fixFind]
  | cons x l ih =>
    rw [fixFind]
    split
    · exact hT x (by simp)
    · exact ih (fun y hy => hT y (by simp [hy]))
theorem opAt_get (I : List FixItem) (i : Nat) (h : i < I.length) : opAt I i = I[i].op := by simp [opAt, h]
end Go.Proofs.Ytpeabfbljiaedaa
