/- The plain laws of fixity's climb: the tree's nodes, its operators' levels, its items in order. No program in sight. -/
import Derived.Test.YtpeabfbljiaedaaFixPure
namespace Go.Proofs.Ytpeabfbljiaedaa
open Go.RowKit

def nodeAt (t : List FixNode) (i : Nat) : FixNode := t.getD i ⟨noOp, 0, 0, 0⟩
theorem nodeAt_left (t u : List FixNode) (i : Nat) (h : i < t.length) : nodeAt (t ++ u) i = nodeAt t i := by
  simp [nodeAt, List.getElem?_append_left h]
theorem nodeAt_last (t : List FixNode) (x : FixNode) : nodeAt (t ++ [x]) t.length = x := by
  simp [nodeAt]

theorem fixFind_op (T : List FixSig) (op : ByteArray) : (fixFind T op).op = op := by
  induction T with
  | nil => rfl
  | cons x l ih => rw [fixFind]; split <;> assumption

/-- An operator y may be the left (the right) child of x. -/
def leftOk (x y : FixSig) : Prop := x.level < y.level ∨ (y.level = x.level ∧ y.side = x.side ∧ x.side = 0)
def rightOk (x y : FixSig) : Prop := x.level < y.level ∨ (y.level = x.level ∧ y.side = x.side ∧ x.side = 1)

/-- A node is well made: an operand of the sequence, or an operator of it above two nodes ahead of it. -/
def NodeOk (T : List FixSig) (I : List FixItem) (t : List FixNode) (i : Nat) : Prop :=
  ((nodeAt t i).op = noOp ∧ (nodeAt t i).a = 0 ∧ (nodeAt t i).b = 0 ∧ ∃ k, k < I.length ∧ (nodeAt t i).n = (I.getD k ⟨noOp, 0⟩).n) ∨
  ((nodeAt t i).op ≠ noOp ∧ (nodeAt t i).n = 0 ∧ (∃ k, k < I.length ∧ (nodeAt t i).op = opAt I k) ∧ ∃ a b : Nat, (nodeAt t i).a = a ∧ (nodeAt t i).b = b ∧ a < i ∧ b < i ∧
    ((nodeAt t a).op ≠ noOp → leftOk (fixFind T (nodeAt t i).op) (fixFind T (nodeAt t a).op)) ∧
    ((nodeAt t b).op ≠ noOp → rightOk (fixFind T (nodeAt t i).op) (fixFind T (nodeAt t b).op)))
def NodesOk (T : List FixSig) (I : List FixItem) (t : List FixNode) : Prop := ∀ i, i < t.length → NodeOk T I t i

theorem NodeOk.left {T : List FixSig} {I : List FixItem} {t : List FixNode} {i : Nat} (u : List FixNode) (hi : i < t.length) (h : NodeOk T I t i) : NodeOk T I (t ++ u) i := by
  unfold NodeOk at *
  rw [nodeAt_left t u i hi]
  rcases h with h | ⟨h1, h2, h3, a, b, h4, h5, h6, h7, h8, h9⟩
  · exact .inl h
  · refine .inr ⟨h1, h2, h3, a, b, h4, h5, h6, h7, ?_, ?_⟩
    · rw [nodeAt_left t u a (by omega)]; exact h8
    · rw [nodeAt_left t u b (by omega)]; exact h9
theorem NodesOk.snoc {T : List FixSig} {I : List FixItem} {t : List FixNode} {x : FixNode} (h : NodesOk T I t) (hx : NodeOk T I (t ++ [x]) t.length) : NodesOk T I (t ++ [x]) := by
  intro i hi
  rcases Nat.lt_or_ge i t.length with h1 | h1
  · exact (h i h1).left _ h1
  · have : i = t.length := by simp at hi; omega
    subst this; exact hx

/-- The items of the tree below a node, in order. -/
def walkT (t : List FixNode) : Nat → Nat → List FixItem
  | 0, _ => []
  | f + 1, i => if (nodeAt t i).op = noOp then [⟨noOp, (nodeAt t i).n⟩] else walkT t f (nodeAt t i).a.toNat ++ ⟨(nodeAt t i).op, 0⟩ :: walkT t f (nodeAt t i).b.toNat
theorem walkT_fuel {T : List FixSig} {I : List FixItem} {t : List FixNode} (h : NodesOk T I t) : ∀ (f g i : Nat), i < f → i < g → i < t.length → walkT t f i = walkT t g i := by
  intro f
  induction f with
  | zero => intro g i h1; omega
  | succ f ih =>
    intro g i h1 h2 h3
    cases g with
    | zero => omega
    | succ g =>
      rw [walkT, walkT]
      rcases h i h3 with ⟨e, _⟩ | ⟨e, _, _, a, b, ea, eb, ha, hb, _⟩
      · rw [if_pos e, if_pos e]
      · rw [if_neg e, if_neg e, ea, eb, Int.toNat_natCast, Int.toNat_natCast, ih g a (by omega) (by omega) (by omega), ih g b (by omega) (by omega) (by omega)]
theorem walkT_left {T : List FixSig} {I : List FixItem} {t : List FixNode} (h : NodesOk T I t) (u : List FixNode) : ∀ (f i : Nat), i < t.length → walkT (t ++ u) f i = walkT t f i := by
  intro f
  induction f with
  | zero => intro i _; rfl
  | succ f ih =>
    intro i h1
    rw [walkT, walkT, nodeAt_left t u i h1]
    rcases h i h1 with ⟨e, _⟩ | ⟨e, _, _, a, b, ea, eb, ha, hb, _⟩
    · rw [if_pos e, if_pos e]
    · rw [if_neg e, if_neg e, ea, eb, Int.toNat_natCast, Int.toNat_natCast, ih a (by omega), ih b (by omega)]

/-- An item of the sequence as the tree holds it. -/
def itemAt (I : List FixItem) (i : Nat) : FixItem := if i % 2 = 0 then ⟨noOp, (I.getD i ⟨noOp, 0⟩).n⟩ else ⟨opAt I i, 0⟩
/-- The items from a to b. -/
def seg (I : List FixItem) (a b : Nat) : List FixItem := (List.range' a (b - a)).map (itemAt I)
theorem seg_nil (I : List FixItem) (a : Nat) : seg I a a = [] := by simp [seg]
theorem seg_one (I : List FixItem) (a : Nat) : seg I a (a + 1) = [itemAt I a] := by simp [seg]
theorem seg_app (I : List FixItem) (a b c : Nat) (h1 : a ≤ b) (h2 : b ≤ c) : seg I a b ++ seg I b c = seg I a c := by
  unfold seg
  rw [← List.map_append]
  congr 1
  have : b = a + (b - a) := by omega
  rw [this, show c - a = (b - a) + (c - b) by omega, ← List.range'_append_1, show a + (b - a) - a = b - a by omega, show c - (a + (b - a)) = c - b by omega]

structure Inv (T : List FixSig) (I : List FixItem) (least : Int) (outer last : FixSig) (left : Nat) (s : FixSt) : Prop where
  len : left + 1 = s.out.length
  ok : NodesOk T I s.out
  root : (nodeAt s.out left).op = noOp ∨ ((nodeAt s.out left).op ≠ noOp ∧ fixFind T (nodeAt s.out left).op = last ∧ least ≤ last.level ∧ fixAgainst last outer = false ∧
    (s.e = 0 → s.at_ < I.length → (fixFind T (opAt I s.at_)).level < nextLevel last))
  odd : s.at_ % 2 = 1
  le : s.at_ ≤ I.length

structure Out (T : List FixSig) (I : List FixItem) (least : Int) (outer : FixSig) (left : Nat) (s : FixSt) (r : FixSt × Nat) : Prop where
  len : r.2 + 1 = r.1.out.length
  ok : NodesOk T I r.1.out
  root : (nodeAt r.1.out r.2).op = noOp ∨ ((nodeAt r.1.out r.2).op ≠ noOp ∧ least ≤ (fixFind T (nodeAt r.1.out r.2).op).level ∧ fixAgainst (fixFind T (nodeAt r.1.out r.2).op) outer = false)
  stop : r.1.e = 0 → r.1.at_ < I.length → (fixFind T (opAt I r.1.at_)).level < least
  pre : ∃ u, r.1.out = s.out ++ u
  items : walkT r.1.out (r.2 + 1) r.2 = walkT s.out (left + 1) left ++ seg I s.at_ r.1.at_

theorem against_not {x y : FixSig} (h : fixAgainst x y = false) (hl : x.level = y.level) : x.side = y.side ∧ x.side ≠ 2 := by
  unfold fixAgainst at h
  simp [hl] at h
  exact ⟨h.1, h.2⟩

theorem fixLoop_out (T : List FixSig) (I : List FixItem) (hT : ∀ op, 0 ≤ (fixFind T op).side ∧ (fixFind T op).side ≤ 2) (hodd : I.length % 2 = 1) (halt : ∀ k, k < I.length → k % 2 = 1 → opAt I k ≠ noOp) :
    ∀ (n : Nat) (least : Int) (outer last : FixSig) (left : Nat) (s : FixSt), Inv T I least outer last left s → I.length ≤ s.at_ + n → Out T I least outer left s (fixLoop T I n least outer last left s) := by
  intro n
  induction n with
  | zero =>
    intro least outer last left s h hn
    refine ⟨h.len, h.ok, ?_, fun _ hlt => ?_, ⟨[], by simp [fixLoop]⟩, by simp [fixLoop, seg_nil]⟩
    · rcases h.root with hr | ⟨h1, h2, h3, h4, _⟩
      · exact .inl hr
      · exact .inr ⟨h1, by simp only [fixLoop]; rw [h2]; exact h3, by simp only [fixLoop]; rw [h2]; exact h4⟩
    · simp only [fixLoop] at hlt; have := h.le; omega
  | succ n ih =>
    intro least outer last left s h hn
    have hroot : (nodeAt s.out left).op = noOp ∨ ((nodeAt s.out left).op ≠ noOp ∧ least ≤ (fixFind T (nodeAt s.out left).op).level ∧ fixAgainst (fixFind T (nodeAt s.out left).op) outer = false) := by
      rcases h.root with hr | ⟨h1, h2, h3, h4, _⟩
      · exact .inl hr
      · exact .inr ⟨h1, by rw [h2]; exact h3, by rw [h2]; exact h4⟩
    have same : (s.e = 0 → s.at_ < I.length → (fixFind T (opAt I s.at_)).level < least) → Out T I least outer left s (s, left) := fun hs =>
      ⟨h.len, h.ok, hroot, hs, ⟨[], by simp⟩, by simp [seg_nil]⟩
    by_cases c1 : s.e ≠ 0 ∨ I.length ≤ s.at_
    · rw [fixLoop_stop T I _ least outer last left s c1]
      exact same (fun he hl => by rcases c1 with c | c <;> omega)
    · obtain ⟨x, hx⟩ : ∃ x, fixFind T (opAt I s.at_) = x := ⟨_, rfl⟩
      by_cases c2 : x.level < least
      · rw [fixLoop_low T I n least outer last left s c1 x hx c2]
        exact same (fun _ _ => by rw [hx]; exact c2)
      · cases c3 : (fixAgainst x outer || fixAgainst x last)
        · have hlt : s.at_ < I.length := by omega
          have he : s.e = 0 := by omega
          obtain ⟨r, hr⟩ : ∃ r, fixLoop T I n (nextLevel x) x x s.out.length (readLeaf I ⟨s.at_ + 1, s.out, s.e⟩) = r := ⟨_, rfl⟩
          rw [fixLoop_on T I n least outer last left s c1 x hx c2 c3 r hr]
          have hlt2 : s.at_ + 1 < I.length := by have := h.odd; omega
          have leaf : NodeOk T I (s.out ++ [leafOf I (s.at_ + 1)]) s.out.length := .inl ⟨by rw [nodeAt_last]; rfl, by rw [nodeAt_last]; rfl, by rw [nodeAt_last]; rfl, s.at_ + 1, hlt2, by rw [nodeAt_last]; rfl⟩
          have inv1 : Inv T I (nextLevel x) x x s.out.length (readLeaf I ⟨s.at_ + 1, s.out, s.e⟩) :=
            ⟨by simp [readLeaf], h.ok.snoc leaf, .inl (by simp only [readLeaf]; rw [nodeAt_last]; rfl), by simp only [readLeaf]; have := h.odd; omega, by simp only [readLeaf]; omega⟩
          have o1 := ih (nextLevel x) x x s.out.length _ inv1 (by simp only [readLeaf]; omega)
          have gr := fixLoop_grow T I hodd n (nextLevel x) x x s.out.length (readLeaf I ⟨s.at_ + 1, s.out, s.e⟩) inv1.odd inv1.le
          rw [hr] at o1 gr
          obtain ⟨g1, g2, g3, _, _⟩ := gr
          simp only [readLeaf] at g1
          simp only [Bool.or_eq_false_iff] at c3
          have hxop : x.op = opAt I s.at_ := by rw [← hx]; exact fixFind_op _ _
          have hxne : x.op ≠ noOp := by rw [hxop]; exact halt _ hlt h.odd
          have hfx : fixFind T x.op = x := by rw [hxop]; exact hx
          have hsd : 0 ≤ x.side ∧ x.side ≤ 2 := by rw [← hx]; exact hT _
          obtain ⟨u, hu⟩ := o1.pre
          simp only [readLeaf] at hu
          have hll := h.len
          have hleft : nodeAt r.1.out left = nodeAt s.out left := by rw [hu, List.append_assoc, nodeAt_left _ _ _ (by omega)]
          have hrl : left < r.1.out.length := by rw [hu]; simp; omega
          have node : NodeOk T I (r.1.out ++ [⟨x.op, 0, left, r.2⟩]) r.1.out.length := by
            refine .inr ⟨by rw [nodeAt_last]; exact hxne, by rw [nodeAt_last], ⟨s.at_, hlt, by rw [nodeAt_last]; exact hxop⟩, left, r.2, by rw [nodeAt_last], by rw [nodeAt_last], hrl, by have := o1.len; omega, ?_, ?_⟩
            · rw [nodeAt_last, nodeAt_left _ _ _ hrl, hleft, hfx]
              intro hne
              rcases h.root with hq | ⟨_, q2, q3, q4, q5⟩
              · exact absurd hq hne
              · rw [q2]
                have q6 := q5 he hlt
                rw [hx] at q6
                unfold nextLevel at q6
                by_cases hs1 : last.side = 1
                · simp [hs1] at q6; exact .inl q6
                · simp [hs1] at q6
                  by_cases hlv : x.level = last.level
                  · obtain ⟨s1, s2⟩ := against_not c3.2 hlv
                    exact .inr ⟨hlv.symm, s1.symm, by omega⟩
                  · exact .inl (by omega)
            · rw [nodeAt_last, nodeAt_left _ _ _ (by have := o1.len; omega), hfx]
              intro hne
              rcases o1.root with hq | ⟨_, q2, q3⟩
              · exact absurd hq hne
              · unfold nextLevel at q2
                by_cases hs1 : x.side = 1
                · simp [hs1] at q2
                  by_cases hlv : (fixFind T (nodeAt r.1.out r.2).op).level = x.level
                  · exact .inr ⟨hlv, (against_not q3 hlv).1, hs1⟩
                  · exact .inl (by omega)
                · simp [hs1] at q2; exact .inl (by omega)
          have inv2 : Inv T I least outer x r.1.out.length ⟨r.1.at_, r.1.out ++ [⟨x.op, 0, left, r.2⟩], r.1.e⟩ :=
            ⟨by simp, o1.ok.snoc node, .inr ⟨by simp only; rw [nodeAt_last]; exact hxne, by simp only; rw [nodeAt_last]; exact hfx, by omega, c3.1, fun h1 h2 => o1.stop h1 h2⟩, g2, g3⟩
          have o2 := ih least outer x r.1.out.length _ inv2 (by simp only; omega)
          have gr2 := fixLoop_grow T I hodd n least outer x r.1.out.length ⟨r.1.at_, r.1.out ++ [⟨x.op, 0, left, r.2⟩], r.1.e⟩ g2 g3
          generalize fixLoop T I n least outer x r.1.out.length ⟨r.1.at_, r.1.out ++ [⟨x.op, 0, left, r.2⟩], r.1.e⟩ = q at o2 gr2 ⊢
          obtain ⟨u2, hu2⟩ := o2.pre
          refine ⟨o2.len, o2.ok, o2.root, o2.stop, ⟨leafOf I (s.at_ + 1) :: (u ++ (⟨x.op, 0, left, r.2⟩ :: u2)), by rw [hu2]; simp only; rw [hu]; simp⟩, ?_⟩
          rw [o2.items]
          simp only
          have w1 : walkT (r.1.out ++ [⟨x.op, 0, left, r.2⟩]) (r.1.out.length + 1) r.1.out.length = walkT r.1.out r.1.out.length left ++ ⟨x.op, 0⟩ :: walkT r.1.out r.1.out.length r.2 := by
            rw [walkT, nodeAt_last, if_neg hxne]
            simp only [Int.toNat_natCast]
            rw [walkT_left o1.ok _ _ _ hrl, walkT_left o1.ok _ _ _ (by have := o1.len; omega)]
          rw [w1, walkT_fuel o1.ok r.1.out.length (left + 1) left (by omega) (by omega) hrl, show r.1.out.length = r.2 + 1 from o1.len.symm, o1.items]
          have w2 : walkT r.1.out (left + 1) left = walkT s.out (left + 1) left := by
            rw [hu, List.append_assoc, walkT_left h.ok _ _ _ (by omega)]
          rw [w2]
          have w3 : walkT (readLeaf I ⟨s.at_ + 1, s.out, s.e⟩).out (s.out.length + 1) s.out.length = seg I (s.at_ + 1) (s.at_ + 2) := by
            simp only [readLeaf]
            rw [walkT, nodeAt_last, if_pos (show (leafOf I (s.at_ + 1)).op = noOp from rfl), seg_one]
            have := h.odd
            simp [leafOf, itemAt, show (s.at_ + 1) % 2 = 0 by omega]
          rw [w3]
          simp only [readLeaf]
          have hop : (⟨x.op, 0⟩ : FixItem) = itemAt I s.at_ := by
            have := h.odd
            unfold itemAt; rw [if_neg (by omega), hxop]
          rw [hop]
          have e1 : itemAt I s.at_ :: (seg I (s.at_ + 1) (s.at_ + 2) ++ seg I (s.at_ + 1 + 1) r.1.at_) = seg I s.at_ r.1.at_ := by
            rw [seg_app I (s.at_ + 1) (s.at_ + 2) r.1.at_ (by omega) (by omega)]
            have := seg_app I s.at_ (s.at_ + 1) r.1.at_ (by omega) (by omega)
            rw [seg_one] at this
            exact this
          rw [e1, List.append_assoc, seg_app I s.at_ r.1.at_ _ (by omega) gr2.1]
        · rw [fixLoop_bad T I n least outer last left s c1 x hx c2 c3]
          exact ⟨h.len, h.ok, hroot, fun he => by simp at he, ⟨[], by simp⟩, by simp [seg_nil]⟩
end Go.Proofs.Ytpeabfbljiaedaa
