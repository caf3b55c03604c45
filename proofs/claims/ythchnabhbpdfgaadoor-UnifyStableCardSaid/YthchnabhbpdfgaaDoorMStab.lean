/- Stable sorting in plain words: merging, insertion sort, what a symmetric split of two rows says. No program in sight. Stable sorting of a row in place, in plain words: what exchanges, rotations, insertion and symmetric merging leave in the row. No program in sight. Rows of structs of four cells in a block of their own: reading, exchanging. No conditions. -/
import Derived.Sort.Defs
import Derived.Test.YthchnabhbpdfgaaDoorBase
import Derived.Sort.Grow
section
namespace Go.Proofs.YthchnabhbpdfgaaDoor.Stab
section
variable {α : Type}
/-- 'less' is a strict order in which what is not comparable is alike. -/
structure Weak (less : α → α → Bool) : Prop where
  tr : ∀ a b c, less a b = true → less b c = true → less a c = true
  nt : ∀ a b c, less b a = false → less c b = false → less c a = false
  ir : ∀ a, less a a = false
variable {less : α → α → Bool}
/-- Two rows become one; of those that are alike the left one's come first. -/
def merge (less : α → α → Bool) : List α → List α → List α
  | [], r => r
  | l, [] => l
  | x :: l, y :: r => if less y x then y :: merge less (x :: l) r else x :: merge less l (y :: r)
termination_by l r => l.length + r.length
theorem merge_nil_left (r : List α) : merge less [] r = r := by rw [merge]
theorem merge_nil_right (l : List α) : merge less l [] = l := by cases l <;> rw [merge]; exact fun h => by cases h
theorem merge_cons (x y : α) (l r : List α) : merge less (x :: l) (y :: r) = if less y x then y :: merge less (x :: l) r else x :: merge less l (y :: r) := by rw [merge]
theorem merge_length : ∀ (n : Nat) (l r : List α), l.length + r.length = n → (merge less l r).length = n
  | _, [], r, h => by rw [merge_nil_left]; simpa using h
  | _, x :: l, [], h => by rw [merge_nil_right]; simpa using h
  | 0, x :: l, y :: r, h => by simp at h
  | n + 1, x :: l, y :: r, h => by
    rw [merge_cons]
    split
    · rw [List.length_cons, merge_length n (x :: l) r (by simp only [List.length_cons] at h ⊢; omega)]
    · rw [List.length_cons, merge_length n l (y :: r) (by simp only [List.length_cons] at h ⊢; omega)]
/-- A split of both rows that parts what comes first from what comes later. -/
theorem merge_split : ∀ (n : Nat) (l1 r1 l2 r2 : List α), l1.length + r1.length = n → (∀ x ∈ l1, ∀ y ∈ r2, less y x = false) → (∀ y ∈ r1, ∀ x ∈ l2, less y x = true) →
    merge less (l1 ++ l2) (r1 ++ r2) = merge less l1 r1 ++ merge less l2 r2
  | _, [], [], l2, r2, _, _, _ => by rw [merge_nil_left]; rfl
  | n, x :: l1, [], l2, r2, hn, h1, h2 => by
    rw [merge_nil_right]
    cases n with
    | zero => simp at hn
    | succ n =>
    have ih := merge_split n l1 [] l2 r2 (by simpa using hn) (fun z hz => h1 z (List.mem_cons_of_mem _ hz)) h2
    rw [merge_nil_right] at ih
    cases r2 with
    | nil => rw [List.append_nil, merge_nil_right, merge_nil_right]
    | cons y r2 =>
      have : less y x = false := h1 x List.mem_cons_self y List.mem_cons_self
      show merge less (x :: (l1 ++ l2)) (y :: r2) = _
      rw [merge_cons, this, if_neg (by simp)]
      show x :: merge less (l1 ++ l2) ([] ++ y :: r2) = _
      rw [ih]; rfl
  | n, [], y :: r1, l2, r2, hn, h1, h2 => by
    rw [merge_nil_left]
    cases n with
    | zero => simp at hn
    | succ n =>
    have ih := merge_split n [] r1 l2 r2 (by simpa using hn) h1 (fun z hz => h2 z (List.mem_cons_of_mem _ hz))
    rw [merge_nil_left] at ih
    cases l2 with
    | nil => rw [List.nil_append, merge_nil_left, merge_nil_left]
    | cons x l2 =>
      have : less y x = true := h2 y List.mem_cons_self x List.mem_cons_self
      show merge less (x :: l2) (y :: (r1 ++ r2)) = _
      rw [merge_cons, this, if_pos rfl]
      show y :: merge less ([] ++ x :: l2) (r1 ++ r2) = _
      rw [ih]; rfl
  | n, x :: l1, y :: r1, l2, r2, hn, h1, h2 => by
    cases n with
    | zero => simp at hn
    | succ n =>
    show merge less (x :: (l1 ++ l2)) (y :: (r1 ++ r2)) = _
    rw [merge_cons, merge_cons]
    split
    · have ih := merge_split n (x :: l1) r1 l2 r2 (by simp only [List.length_cons] at hn ⊢; omega) h1 (fun z hz => h2 z (List.mem_cons_of_mem _ hz))
      show y :: merge less ((x :: l1) ++ l2) (r1 ++ r2) = _
      rw [ih]; rfl
    · have ih := merge_split n l1 (y :: r1) l2 r2 (by simp only [List.length_cons] at hn ⊢; omega) (fun z hz => h1 z (List.mem_cons_of_mem _ hz)) h2
      show x :: merge less (l1 ++ l2) ((y :: r1) ++ r2) = _
      rw [ih]; rfl
theorem merge_assoc (hw : Weak less) : ∀ (n : Nat) (a b c : List α), a.length + b.length + c.length = n → merge less (merge less a b) c = merge less a (merge less b c)
  | _, [], b, c, _ => by rw [merge_nil_left, merge_nil_left]
  | _, x :: a, [], c, _ => by rw [merge_nil_right, merge_nil_left]
  | _, x :: a, y :: b, [], _ => by rw [merge_nil_right, merge_nil_right]
  | 0, x :: a, y :: b, z :: c, h => by simp at h
  | n + 1, x :: a, y :: b, z :: c, h => by
    simp only [List.length_cons] at h
    rw [merge_cons x y, merge_cons y z]
    by_cases h1 : less y x = true
    · rw [if_pos h1, merge_cons]
      by_cases h2 : less z y = true
      · rw [if_pos h2, if_pos h2, merge_cons x z, if_pos (hw.tr z y x h2 h1)]
        have ih := merge_assoc hw n (x :: a) (y :: b) c (by simp only [List.length_cons]; omega)
        rw [merge_cons x y, if_pos h1] at ih
        rw [ih]
      · rw [if_neg h2, if_neg h2, merge_cons x y, if_pos h1]
        have ih := merge_assoc hw n (x :: a) b (z :: c) (by simp only [List.length_cons]; omega)
        rw [ih]
    · rw [if_neg h1, merge_cons]
      by_cases h2 : less z y = true
      · rw [if_pos h2, merge_cons x z]
        by_cases h3 : less z x = true
        · rw [if_pos h3, if_pos h3]
          have ih := merge_assoc hw n (x :: a) (y :: b) c (by simp only [List.length_cons]; omega)
          rw [merge_cons x y, if_neg h1] at ih
          rw [ih]
        · rw [if_neg h3, if_neg h3]
          have ih := merge_assoc hw n a (y :: b) (z :: c) (by simp only [List.length_cons]; omega)
          rw [merge_cons y z, if_pos h2] at ih
          rw [ih]
      · have h3 : ¬ less z x = true := by
          rw [Bool.not_eq_true] at h1 h2 ⊢
          exact hw.nt x y z h1 h2
        rw [if_neg h2, if_neg h3, merge_cons x y, if_neg h1]
        have ih := merge_assoc hw n a (y :: b) (z :: c) (by simp only [List.length_cons]; omega)
        rw [merge_cons y z, if_neg h2] at ih
        rw [ih]
/-- Sorted, those that are alike in their old order. -/
def isort (less : α → α → Bool) : List α → List α
  | [] => []
  | x :: l => merge less [x] (isort less l)
theorem isort_app (hw : Weak less) : ∀ a b : List α, isort less (a ++ b) = merge less (isort less a) (isort less b)
  | [], b => by rw [isort, merge_nil_left]; rfl
  | x :: a, b => by
    show merge less [x] (isort less (a ++ b)) = merge less (merge less [x] (isort less a)) (isort less b)
    rw [isort_app hw a b, merge_assoc hw _ _ _ _ rfl]
theorem isort_length : ∀ l : List α, (isort less l).length = l.length
  | [] => rfl
  | x :: l => by
    show (merge less [x] (isort less l)).length = _
    rw [merge_length _ _ _ rfl, isort_length l]; simp; omega
/-- Each is not less than those ahead of it. -/
def Sorted (less : α → α → Bool) (l : List α) : Prop := l.Pairwise fun x y => less y x = false
theorem mem_merge {z : α} : ∀ (n : Nat) (l r : List α), l.length + r.length = n → (z ∈ merge less l r ↔ z ∈ l ∨ z ∈ r)
  | _, [], r, _ => by rw [merge_nil_left]; simp
  | _, x :: l, [], _ => by rw [merge_nil_right]; simp
  | 0, x :: l, y :: r, h => by simp at h
  | n + 1, x :: l, y :: r, h => by
    simp only [List.length_cons] at h
    rw [merge_cons]
    split
    · rw [List.mem_cons, mem_merge n (x :: l) r (by simp only [List.length_cons]; omega)]
      simp only [List.mem_cons]
      constructor
      · rintro (h | h | h)
        · exact .inr (.inl h)
        · exact .inl h
        · exact .inr (.inr h)
      · rintro (h | h | h)
        · exact .inr (.inl h)
        · exact .inl h
        · exact .inr (.inr h)
    · rw [List.mem_cons, mem_merge n l (y :: r) (by simp only [List.length_cons]; omega)]
      simp only [List.mem_cons, or_assoc]
theorem Sorted.merge (hw : Weak less) : ∀ (n : Nat) {l r : List α}, l.length + r.length = n → Sorted less l → Sorted less r → Sorted less (Stab.merge less l r)
  | _, [], r, _, _, h => by rw [merge_nil_left]; exact h
  | _, x :: l, [], _, h, _ => by rw [merge_nil_right]; exact h
  | 0, x :: l, y :: r, h, _, _ => by simp at h
  | n + 1, x :: l, y :: r, h, h1, h2 => by
    simp only [List.length_cons] at h
    have g1 := List.pairwise_cons.1 h1
    have g2 := List.pairwise_cons.1 h2
    rw [merge_cons]
    by_cases hyx : less y x = true
    · rw [if_pos hyx]
      refine List.pairwise_cons.2 ⟨fun z hz => ?_, Sorted.merge hw n (by simp only [List.length_cons]; omega) h1 g2.2⟩
      have hxy : less x y = false := by
        cases hb : less x y with
        | false => rfl
        | true => have := hw.tr x y x hb hyx; rw [hw.ir] at this; cases this
      rcases (mem_merge _ _ _ rfl).1 hz with hz | hz
      · rcases List.mem_cons.1 hz with rfl | hz
        · exact hxy
        · exact hw.nt y x z hxy (g1.1 z hz)
      · exact g2.1 z hz
    · rw [if_neg hyx]
      rw [Bool.not_eq_true] at hyx
      refine List.pairwise_cons.2 ⟨fun z hz => ?_, Sorted.merge hw n (by simp only [List.length_cons]; omega) g1.2 h2⟩
      rcases (mem_merge _ _ _ rfl).1 hz with hz | hz
      · exact g1.1 z hz
      · rcases List.mem_cons.1 hz with rfl | hz
        · exact hyx
        · exact hw.nt x y z hyx (g2.1 z hz)
theorem isort_sorted (hw : Weak less) : ∀ l : List α, Sorted less (isort less l)
  | [] => List.Pairwise.nil
  | _ :: l => Sorted.merge hw _ rfl (List.pairwise_singleton _ _) (isort_sorted hw l)
theorem mem_isort {z : α} : ∀ l : List α, z ∈ isort less l ↔ z ∈ l
  | [] => by simp [isort]
  | x :: l => by
    show z ∈ merge less [x] (isort less l) ↔ _
    rw [mem_merge _ _ _ rfl, mem_isort l]; simp
/-! ### Parts of a row -/
def seg (D : List α) (i j : Nat) : List α := (D.drop i).take (j - i)
theorem seg_get {D : List α} {i j k : Nat} (h : k < j - i) : (seg D i j)[k]? = D[i + k]? := by
  unfold seg
  rw [List.getElem?_take_of_lt h, List.getElem?_drop]
theorem seg_length {D : List α} {i j : Nat} (h : j ≤ D.length) : (seg D i j).length = j - i := by
  unfold seg
  rw [List.length_take, List.length_drop]; omega
theorem mem_seg {D : List α} {i j : Nat} {x : α} (h : x ∈ seg D i j) : ∃ c, i ≤ c ∧ c < j ∧ D[c]? = some x := by
  obtain ⟨k, hk⟩ := List.mem_iff_getElem?.1 h
  have hlt : k < j - i := by
    have h1 : k < (seg D i j).length := (List.getElem?_eq_some_iff.1 hk).1
    unfold seg at h1
    rw [List.length_take] at h1
    omega
  rw [seg_get hlt] at hk
  exact ⟨i + k, by omega, by omega, hk⟩
theorem seg_app {D : List α} {i j k : Nat} (h1 : i ≤ j) (h2 : j ≤ k) : seg D i j ++ seg D j k = seg D i k := by
  unfold seg
  have e1 : D.drop j = (D.drop i).drop (j - i) := by rw [List.drop_drop]; congr 1; omega
  have e2 : k - i = (j - i) + (k - j) := by omega
  rw [e1, e2, List.take_add]
/-- In a sorted part one that stands behind is not less. -/
theorem Sorted.seg_le {D : List α} {i j : Nat} (h : Sorted less (seg D i j)) {c d : Nat} (hw : Weak less) (h1 : i ≤ c) (h2 : c ≤ d) (h3 : d < j) {x y : α} (hx : D[c]? = some x) (hy : D[d]? = some y) : less y x = false := by
  by_cases hcd : c = d
  · subst hcd
    rw [hx] at hy
    cases hy
    exact hw.ir x
  · have gx : (seg D i j)[c - i]? = some x := by rw [seg_get (by omega), show i + (c - i) = c by omega]; exact hx
    have gy : (seg D i j)[d - i]? = some y := by rw [seg_get (by omega), show i + (d - i) = d by omega]; exact hy
    obtain ⟨l1, e1⟩ := List.getElem?_eq_some_iff.1 gx
    obtain ⟨l2, e2⟩ := List.getElem?_eq_some_iff.1 gy
    have := List.pairwise_iff_getElem.1 h (c - i) (d - i) l1 l2 (by omega)
    rw [e1, e2] at this
    exact this
/-- What the symmetric search has found parts the merging in two: 's' the place in the left part, 'e' that in the right one. -/
theorem sym_cut (hw : Weak less) {D : List α} {a m b s e : Nat} (hb : b ≤ D.length) (h1 : a ≤ s) (h2 : s ≤ m) (h3 : m ≤ e) (h4 : e ≤ b) (hL : Sorted less (seg D a m)) (hR : Sorted less (seg D m b))
    (lo : s = a ∨ e = b ∨ ∀ x y, D[s - 1]? = some x → D[e]? = some y → less y x = false) (hi : s = m ∨ e = m ∨ ∀ x y, D[s]? = some x → D[e - 1]? = some y → less y x = true) :
    merge less (seg D a m) (seg D m b) = merge less (seg D a s) (seg D m e) ++ merge less (seg D s m) (seg D e b) := by
  rw [← seg_app (D := D) h1 h2, ← seg_app (D := D) h3 h4]
  refine merge_split _ _ _ _ _ rfl (fun x hx y hy => ?_) (fun y hy x hx => ?_)
  · obtain ⟨c, c1, c2, c3⟩ := mem_seg hx
    obtain ⟨d, d1, d2, d3⟩ := mem_seg hy
    rcases lo with lo | lo | lo
    · omega
    · omega
    · have l1 : s - 1 < D.length := by omega
      have l2 : e < D.length := by omega
      have k1 := lo _ _ (List.getElem?_eq_getElem l1) (List.getElem?_eq_getElem l2)
      have k2 := hL.seg_le hw (c := c) (d := s - 1) c1 (by omega) (by omega) c3 (List.getElem?_eq_getElem l1)
      have k3 := hR.seg_le hw (c := e) (d := d) h3 (by omega) d2 (List.getElem?_eq_getElem l2) d3
      exact hw.nt _ _ _ (hw.nt _ _ _ k2 k1) k3
  · obtain ⟨c, c1, c2, c3⟩ := mem_seg hx
    obtain ⟨d, d1, d2, d3⟩ := mem_seg hy
    rcases hi with hi | hi | hi
    · omega
    · omega
    · have l1 : s < D.length := by omega
      have l2 : e - 1 < D.length := by omega
      have k1 := hi _ _ (List.getElem?_eq_getElem l1) (List.getElem?_eq_getElem l2)
      have k2 := hL.seg_le hw (c := s) (d := c) h1 c1 c2 (List.getElem?_eq_getElem l1) c3
      have k3 := hR.seg_le hw (c := d) (d := e - 1) d1 (by omega) (by omega) d3 (List.getElem?_eq_getElem l2)
      cases hb' : less y x with
      | true => rfl
      | false =>
        have := hw.nt _ _ _ (hw.nt _ _ _ k2 hb') k3
        rw [k1] at this; cases this
/-- A row of one is merged into another: where all ahead are not greater, the rest greater. -/
theorem merge_one_left {x : α} {p q : List α} (h1 : ∀ y ∈ p, less y x = true) (h2 : ∀ y ∈ q, less y x = false) : merge less [x] (p ++ q) = p ++ x :: q := by
  have := merge_split (less := less) _ [] p [x] q rfl (fun _ h => by cases h) (fun y hy z hz => by rw [List.mem_singleton] at hz; subst hz; exact h1 y hy)
  rw [List.nil_append, merge_nil_left] at this
  rw [this]
  congr 1
  cases q with
  | nil => rw [merge_nil_right]
  | cons y q => rw [merge_cons, h2 y List.mem_cons_self, if_neg (by simp), merge_nil_left]
theorem merge_one_right {y : α} {p q : List α} (h1 : ∀ x ∈ p, less y x = false) (h2 : ∀ x ∈ q, less y x = true) : merge less (p ++ q) [y] = p ++ y :: q := by
  have := merge_split (less := less) _ p [] q [y] rfl (fun x hx z hz => by rw [List.mem_singleton] at hz; subst hz; exact h1 x hx) (fun _ h => by cases h)
  rw [List.nil_append, merge_nil_right] at this
  rw [this]
  congr 1
  cases q with
  | nil => rw [merge_nil_left]
  | cons x q => rw [merge_cons, h2 x List.mem_cons_self, if_pos rfl, merge_nil_right]
end
end Go.Proofs.YthchnabhbpdfgaaDoor.Stab
end

section
namespace Go.Proofs.YthchnabhbpdfgaaDoor.Stab
open Go.Sort
section
variable {α : Type} {less : α → α → Bool}
theorem seg_nil {D : List α} {i j : Nat} (h : j ≤ i) : seg D i j = [] := by
  unfold seg
  rw [show j - i = 0 by omega, List.take_zero]
theorem Sorted.sub {D : List α} {a b i j : Nat} (h : Sorted less (seg D a b)) (h1 : a ≤ i) (h2 : i ≤ j) (h3 : j ≤ b) : Sorted less (seg D i j) := by
  rw [← seg_app (D := D) h1 (Nat.le_trans h2 h3), ← seg_app (D := D) h2 h3] at h
  exact (List.pairwise_append.1 (List.pairwise_append.1 h).2.1).1
/-- The part from i to j is sorted, of what stood there. -/
def Sor (less : α → α → Bool) (d d' : Array α) (i j : Nat) : Prop := seg d'.toList i j = isort less (seg d.toList i j)
theorem Sor.sorted (hw : Weak less) {d d1 : Array α} {i j : Nat} (h : Sor less d d1 i j) : Sorted less (seg d1.toList i j) := by
  unfold Sor at h
  rw [h]; exact isort_sorted hw _
end
section
variable {α : Type} [Inhabited α] {less : α → α → Bool}
theorem getD_out {d : Array α} {k : Nat} (h : d.size ≤ k) : d[k]! = default := by
  rw [Array.getElem!_eq_getD, Array.getD, dif_neg (Nat.not_lt.2 h)]
theorem list_at {d : Array α} {k : Nat} (h : k < d.size) : d.toList[k]? = some d[k]! := by
  rw [Array.getElem?_toList, Array.getElem?_eq_getElem h, getElem!_pos d k h]
theorem size_swp' (d : Array α) (i j : Nat) : (swp d i j).size = d.size := by simp [swp]
/-- An exchange, place by place. -/
theorem swp_at (d : Array α) {i j : Nat} (hi : i < d.size) (hj : j < d.size) (k : Nat) : (swp d i j)[k]! = if k = j then d[i]! else if k = i then d[j]! else d[k]! := by
  rcases Nat.lt_or_ge k d.size with hk | hk
  · have hk' : k < ((d.setIfInBounds i d[j]!).setIfInBounds j d[i]!).size := by simpa using hk
    show ((d.setIfInBounds i d[j]!).setIfInBounds j d[i]!)[k]! = _
    rw [getElem!_pos _ k hk', Array.getElem_setIfInBounds (by simpa using hk), Array.getElem_setIfInBounds hk, getElem!_pos d k hk]
    by_cases h1 : k = j
    · rw [if_pos h1, if_pos h1.symm]
    · rw [if_neg h1, if_neg (fun e => h1 e.symm)]
      by_cases h2 : k = i
      · rw [if_pos h2, if_pos h2.symm]
      · rw [if_neg h2, if_neg (fun e => h2 e.symm)]
  · rw [getD_out (by rw [size_swp']; exact hk), if_neg (by omega), if_neg (by omega), getD_out hk]
theorem seg_ext {d d' : Array α} {i j i' j' : Nat} (hl : j - i = j' - i') (hj : j ≤ d.size) (hj' : j' ≤ d'.size) (h : ∀ k, k < j - i → d[i + k]! = d'[i' + k]!) : seg d.toList i j = seg d'.toList i' j' := by
  apply List.ext_getElem?
  intro k
  rcases Nat.lt_or_ge k (j - i) with hk | hk
  · rw [seg_get hk, seg_get (by omega), list_at (by omega), list_at (by omega), h k hk]
  · rw [List.getElem?_eq_none (by rw [seg_length (by simpa using hj)]; exact hk), List.getElem?_eq_none (by rw [seg_length (by simpa using hj')]; omega)]
/-- A part of the row is l now, all else is as it was. -/
structure Part (a b : Nat) (d d' : Array α) (l : List α) : Prop where
  size : d'.size = d.size
  out : ∀ k, k < a ∨ b ≤ k → d'[k]! = d[k]!
  seg : seg d'.toList a b = l
theorem Part.far {a b : Nat} {d d' : Array α} {l : List α} (h : Part a b d d' l) {i j : Nat} (hij : j ≤ a ∨ b ≤ i) (hj : j ≤ d.size) : Stab.seg d'.toList i j = Stab.seg d.toList i j :=
  seg_ext rfl (by rw [h.size]; exact hj) hj fun k hk => h.out _ (by omega)
theorem Part.refl (a b : Nat) (d : Array α) : Part a b d d (Stab.seg d.toList a b) := ⟨rfl, fun _ _ => rfl, rfl⟩
theorem seg_one {d : Array α} {i : Nat} (h : i < d.size) : seg d.toList i (i + 1) = [d[i]!] := by
  apply List.ext_getElem?
  intro k
  rcases Nat.lt_or_ge k 1 with hk | hk
  · obtain rfl : k = 0 := by omega
    rw [seg_get (by omega)]
    simpa using list_at h
  · rw [List.getElem?_eq_none (by rw [seg_length (by simp; omega)]; omega), List.getElem?_eq_none (by simpa using hk)]
theorem Sorted.at_ {d : Array α} {i j : Nat} (hw : Weak less) (h : Sorted less (seg d.toList i j)) (hj : j ≤ d.size) {c e : Nat} (h1 : i ≤ c) (h2 : c ≤ e) (h3 : e < j) : less d[e]! d[c]! = false :=
  h.seg_le hw h1 h2 h3 (list_at (by omega)) (list_at (by omega))

/-! ### Insertion -/
theorem insInner_part (hw : Weak less) (a : Nat) : ∀ (j : Nat) (d : Array α), a ≤ j → j < d.size → Sorted less (seg d.toList a j) →
    Part a (j + 1) d (insInner less a j d) (merge less (seg d.toList a j) [d[j]!])
  | 0, d, h0, hj, _ => by
    obtain rfl : a = 0 := by omega
    unfold insInner
    have h := Part.refl 0 1 d
    rw [seg_one hj] at h
    rw [seg_nil (Nat.le_refl 0), merge_nil_left]
    exact h
  | j + 1, d, h0, hj, hs => by
    unfold insInner
    by_cases hc : (decide (j + 1 > a) && less d[j + 1]! d[j]!) = true
    · rw [if_pos hc]
      rw [Bool.and_eq_true, decide_eq_true_eq] at hc
      obtain ⟨haj, hlt⟩ := hc
      have hi : j < d.size := by omega
      have hat := swp_at d hj hi
      have hsz := size_swp' d (j + 1) j
      have e1 : seg (swp d (j + 1) j).toList a j = seg d.toList a j := seg_ext rfl (by omega) (by omega) fun k hk => by rw [hat, if_neg (by omega), if_neg (by omega)]
      have e2 : (swp d (j + 1) j)[j]! = d[j + 1]! := by rw [hat, if_pos rfl]
      have hp := insInner_part hw a j (swp d (j + 1) j) (by omega) (by omega) (by rw [e1]; exact hs.sub (Nat.le_refl _) (by omega) (by omega))
      rw [e1, e2] at hp
      refine ⟨by rw [hp.size, hsz], fun k hk => by rw [hp.out k (by omega), hat, if_neg (by omega), if_neg (by omega)], ?_⟩
      have e3 : seg d.toList a (j + 1) = seg d.toList a j ++ [d[j]!] := by rw [← seg_one hi, seg_app (by omega) (by omega)]
      have e4 : seg (insInner less a j (swp d (j + 1) j)).toList (j + 1) (j + 1 + 1) = [d[j]!] := by
        rw [hp.far (Or.inr (Nat.le_refl _)) (by omega), seg_one (by omega), hat, if_neg (by omega), if_pos rfl]
      rw [← seg_app (D := (insInner less a j (swp d (j + 1) j)).toList) (show a ≤ j + 1 by omega) (show j + 1 ≤ j + 1 + 1 by omega), hp.seg, e4, e3]
      have := merge_split (less := less) _ (seg d.toList a j) [d[j + 1]!] [d[j]!] [] rfl (fun _ _ _ h => by cases h) (fun y hy x hx => by
        rw [List.mem_singleton] at hy hx
        subst hy; subst hx; exact hlt)
      rw [List.append_nil, merge_nil_right] at this
      exact this.symm
    · rw [if_neg hc]
      have hno : ∀ x ∈ seg d.toList a (j + 1), less d[j + 1]! x = false := fun x hx => by
        obtain ⟨c, c1, c2, c3⟩ := mem_seg hx
        have haj : j + 1 > a := by omega
        rw [Bool.and_eq_true, decide_eq_true_eq, not_and, Bool.not_eq_true] at hc
        have hl := hc haj
        have := hs.at_ hw (by omega) c1 (show c ≤ j by omega) (by omega)
        rw [list_at (by omega)] at c3
        cases c3
        exact hw.nt _ _ _ this hl
      refine ⟨rfl, fun _ _ => rfl, ?_⟩
      have := merge_one_right (less := less) (y := d[j + 1]!) (p := seg d.toList a (j + 1)) (q := []) hno (fun _ h => by cases h)
      rw [List.append_nil] at this
      rw [this, ← seg_one hj, seg_app (by omega) (by omega)]
theorem insOuter_part (hw : Weak less) {d0 : Array α} {a b : Nat} : ∀ (n i : Nat) (d : Array α), b - i = n → a ≤ i → i ≤ b → b ≤ d0.size → Part a i d0 d (isort less (seg d0.toList a i)) →
    Part a b d0 (insOuter less a b i d) (isort less (seg d0.toList a b))
  | 0, i, d, hn, h1, h2, _, hp => by
    obtain rfl : i = b := by omega
    unfold insOuter
    rw [if_neg (by omega)]
    exact hp
  | n + 1, i, d, hn, h1, h2, hb, hp => by
    unfold insOuter
    rw [if_pos (by omega)]
    have hi : i < d.size := by rw [hp.size]; omega
    have hq := insInner_part hw a i d h1 hi (by rw [hp.seg]; exact isort_sorted hw _)
    refine insOuter_part hw n (i + 1) _ (by omega) (by omega) (by omega) hb ⟨by rw [hq.size, hp.size], fun k hk => by rw [hq.out k hk, hp.out k (by omega)], ?_⟩
    rw [hq.seg, hp.seg, hp.out i (by omega), ← seg_app (D := d0.toList) h1 (Nat.le_succ i), seg_one (by omega), isort_app hw]
    congr 1
    show _ = merge less [d0[i]!] []
    rw [merge_nil_right]
theorem insertion_part (hw : Weak less) (d : Array α) {a b : Nat} (hab : a ≤ b) (hb : b ≤ d.size) : Part a b d (insertionSort less d a b) (isort less (seg d.toList a b)) := by
  unfold insertionSort
  rcases Nat.lt_or_ge a b with h | h
  · refine insOuter_part hw _ (a + 1) d rfl (by omega) (by omega) hb ⟨rfl, fun _ _ => rfl, ?_⟩
    rw [seg_one (by omega)]
    show _ = merge less [d[a]!] []
    rw [merge_nil_right]
  · obtain rfl : a = b := by omega
    unfold insOuter
    rw [if_neg (by omega)]
    have h := Part.refl a a d
    rw [seg_nil (Nat.le_refl a)] at h ⊢
    exact h

/-! ### Runs of exchanges -/
/-- 'swapRange', after k steps. -/
def swapR (a b : Nat) : Nat → Array α → Array α
  | 0, d => d
  | k + 1, d => swp (swapR a b k d) (a + k) (b + k)
theorem swapR_at (a b : Nat) (d : Array α) : ∀ k, a + k ≤ b → b + k ≤ d.size → (swapR a b k d).size = d.size ∧ ∀ x, (swapR a b k d)[x]! = if a ≤ x ∧ x < a + k then d[x - a + b]! else if b ≤ x ∧ x < b + k then d[x - b + a]! else d[x]!
  | 0, h1, h2 => ⟨rfl, fun x => by rw [if_neg (by omega), if_neg (by omega)]; rfl⟩
  | k + 1, h1, h2 => by
    obtain ⟨hs, hat⟩ := swapR_at a b d k (by omega) (by omega)
    refine ⟨by unfold swapR; rw [size_swp', hs], fun x => ?_⟩
    unfold swapR
    rw [swp_at _ (by rw [hs]; omega) (by rw [hs]; omega)]
    by_cases e1 : x = b + k
    · subst e1
      rw [if_pos rfl, if_neg (by omega), if_pos (by omega), hat, if_neg (by omega), if_neg (by omega)]
      congr 1; omega
    · rw [if_neg e1]
      by_cases e2 : x = a + k
      · subst e2
        rw [if_pos rfl, if_pos (by omega), hat, if_neg (by omega), if_neg (by omega)]
        congr 1; omega
      · rw [if_neg e2, hat]
        by_cases c1 : a ≤ x ∧ x < a + k
        · rw [if_pos c1, if_pos (by omega)]
        · rw [if_neg c1, if_neg (by omega : ¬ (a ≤ x ∧ x < a + (k + 1)))]
          by_cases c2 : b ≤ x ∧ x < b + k
          · rw [if_pos c2, if_pos (by omega)]
          · rw [if_neg c2, if_neg (by omega)]
/-- Where a rotation takes the element of a place from. -/
def rotIx (a m b x : Nat) : Nat := if x < a ∨ b ≤ x then x else if x < a + (b - m) then x - a + m else x - (b - m)
/-- d' is d with its parts from a to m and from m to b exchanged. -/
def Rot (a m b : Nat) (d d' : Array α) : Prop := d'.size = d.size ∧ ∀ x, d'[x]! = d[rotIx a m b x]!
theorem rotIx_out {a m b x : Nat} (h : x < a ∨ b ≤ x) : rotIx a m b x = x := by unfold rotIx; rw [if_pos h]
theorem rotIx_lo {a m b x : Nat} (h1 : a ≤ x) (h2 : x < a + (b - m)) (h3 : x < b) : rotIx a m b x = x - a + m := by unfold rotIx; rw [if_neg (by omega), if_pos h2]
theorem rotIx_hi {a m b x : Nat} (h1 : a ≤ x) (h2 : a + (b - m) ≤ x) (h3 : x < b) : rotIx a m b x = x - (b - m) := by unfold rotIx; rw [if_neg (by omega), if_neg (by omega)]
theorem rot_left {a m b n : Nat} {d d1 : Array α} (h1 : a + n < m) (h2 : m + n = b) (hb : b ≤ d.size) (h : Rot (a + n) m b (swapR a m n d) d1) : Rot a m b d d1 := by
  obtain ⟨hs, hat⟩ := swapR_at a m d n (by omega) (by omega)
  refine ⟨by rw [h.1, hs], fun x => ?_⟩
  rw [h.2, hat]
  by_cases c1 : x < a ∨ b ≤ x
  · rw [rotIx_out (show x < a + n ∨ b ≤ x by omega), rotIx_out c1, if_neg (by omega), if_neg (by omega)]
  · by_cases c2 : x < a + n
    · rw [rotIx_out (Or.inl c2), rotIx_lo (a := a) (by omega) (by omega) (by omega), if_pos (by omega)]
    · by_cases c3 : x < a + n + (b - m)
      · rw [rotIx_lo (a := a + n) (by omega) c3 (by omega), rotIx_hi (a := a) (by omega) (by omega) (by omega), if_neg (by omega), if_pos (by omega)]
        congr 1; omega
      · rw [rotIx_hi (a := a + n) (by omega) (by omega) (by omega), rotIx_hi (a := a) (by omega) (by omega) (by omega), if_neg (by omega), if_neg (by omega)]
theorem rot_right {a m b n : Nat} {d d1 : Array α} (h1 : a + n = m) (h2 : m + n < b) (hb : b ≤ d.size) (h : Rot a m (b - n) (swapR a (b - n) n d) d1) : Rot a m b d d1 := by
  obtain ⟨hs, hat⟩ := swapR_at a (b - n) d n (by omega) (by omega)
  refine ⟨by rw [h.1, hs], fun x => ?_⟩
  rw [h.2, hat]
  by_cases c1 : x < a ∨ b ≤ x
  · rw [rotIx_out (show x < a ∨ b - n ≤ x by omega), rotIx_out c1, if_neg (by omega), if_neg (by omega)]
  · by_cases c2 : x < b - n
    · by_cases c3 : x < a + (b - n - m)
      · rw [rotIx_lo (b := b - n) (by omega) c3 (by omega), rotIx_lo (b := b) (by omega) (by omega) (by omega), if_neg (by omega), if_neg (by omega)]
      · rw [rotIx_hi (b := b - n) (by omega) (by omega) (by omega), rotIx_lo (b := b) (by omega) (by omega) (by omega), if_pos (by omega)]
        congr 1; omega
    · rw [rotIx_out (show x < a ∨ b - n ≤ x by omega), rotIx_hi (b := b) (by omega) (by omega) (by omega), if_neg (by omega), if_pos (by omega)]
      congr 1; omega
theorem rot_end {a m b n : Nat} {d : Array α} (h1 : a + n = m) (h2 : m + n = b) (hb : b ≤ d.size) : Rot a m b d (swapR a m n d) := by
  obtain ⟨hs, hat⟩ := swapR_at a m d n (by omega) (by omega)
  refine ⟨hs, fun x => ?_⟩
  rw [hat]
  by_cases c1 : x < a ∨ b ≤ x
  · rw [rotIx_out c1, if_neg (by omega), if_neg (by omega)]
  · by_cases c2 : x < a + (b - m)
    · rw [rotIx_lo (by omega) c2 (by omega), if_pos (by omega)]
    · rw [rotIx_hi (by omega) (by omega) (by omega), if_neg (by omega), if_pos (by omega)]
      congr 1; omega
/-- One element carried up from a to i, those between one place down: after k steps. -/
def upR (a : Nat) : Nat → Array α → Array α
  | 0, d => d
  | k + 1, d => swp (upR a k d) (a + k) (a + k + 1)
theorem upR_at (a : Nat) (d : Array α) : ∀ k, a + k < d.size → (upR a k d).size = d.size ∧ ∀ x, (upR a k d)[x]! = if a ≤ x ∧ x < a + k then d[x + 1]! else if x = a + k then d[a]! else d[x]!
  | 0, h => ⟨rfl, fun x => by
      rw [if_neg (by omega)]
      by_cases e : x = a + 0
      · rw [if_pos e, e]; rfl
      · rw [if_neg e]; rfl⟩
  | k + 1, h => by
    obtain ⟨hs, hat⟩ := upR_at a d k (by omega)
    refine ⟨by unfold upR; rw [size_swp', hs], fun x => ?_⟩
    unfold upR
    rw [swp_at _ (by rw [hs]; omega) (by rw [hs]; omega)]
    by_cases e1 : x = a + k + 1
    · subst e1
      rw [if_pos rfl, if_neg (by omega), if_pos (by omega), hat, if_neg (by omega), if_pos rfl]
    · rw [if_neg e1]
      by_cases e2 : x = a + k
      · subst e2
        rw [if_pos rfl, if_pos (by omega), hat, if_neg (by omega), if_neg (by omega)]
      · rw [if_neg e2, hat]
        by_cases c1 : a ≤ x ∧ x < a + k
        · rw [if_pos c1, if_pos (by omega)]
        · rw [if_neg c1, if_neg e2, if_neg (by omega : ¬ (a ≤ x ∧ x < a + (k + 1))), if_neg (by omega)]
/-- One element carried down from m by k places. -/
def downR (m : Nat) : Nat → Array α → Array α
  | 0, d => d
  | k + 1, d => swp (downR m k d) (m - k) (m - k - 1)
theorem downR_at (m : Nat) (d : Array α) (hm : m < d.size) : ∀ k, k ≤ m → (downR m k d).size = d.size ∧ ∀ x, (downR m k d)[x]! = if m - k < x ∧ x ≤ m then d[x - 1]! else if x = m - k then d[m]! else d[x]!
  | 0, h => ⟨rfl, fun x => by
      rw [if_neg (by omega)]
      by_cases e : x = m - 0
      · rw [if_pos e, e]; rfl
      · rw [if_neg e]; rfl⟩
  | k + 1, h => by
    obtain ⟨hs, hat⟩ := downR_at m d hm k (by omega)
    refine ⟨by unfold downR; rw [size_swp', hs], fun x => ?_⟩
    unfold downR
    rw [swp_at _ (by rw [hs]; omega) (by rw [hs]; omega)]
    by_cases e1 : x = m - k - 1
    · subst e1
      rw [if_pos rfl, if_neg (by omega), if_pos (by omega), hat, if_neg (by omega), if_pos rfl]
    · rw [if_neg e1]
      by_cases e2 : x = m - k
      · subst e2
        rw [if_pos rfl, if_pos (by omega), hat, if_neg (by omega), if_neg (by omega)]
      · rw [if_neg e2, hat]
        by_cases c1 : m - k < x ∧ x ≤ m
        · rw [if_pos c1, if_pos (by omega)]
        · rw [if_neg c1, if_neg e2, if_neg (by omega : ¬ (m - (k + 1) < x ∧ x ≤ m)), if_neg (by omega)]

/-! ### The symmetric merging -/
theorem mem_seg_at {d : Array α} {i j : Nat} (hj : j ≤ d.size) {x : α} (h : x ∈ seg d.toList i j) : ∃ c, i ≤ c ∧ c < j ∧ d[c]! = x := by
  obtain ⟨c, c1, c2, c3⟩ := mem_seg h
  rw [list_at (by omega)] at c3
  exact ⟨c, c1, c2, Option.some.inj c3⟩
theorem sym_one_left {d : Array α} {a b i : Nat} (h1 : a + 1 ≤ i) (h2 : i ≤ b) (hb : b ≤ d.size) (lo : ∀ k, a + 1 ≤ k → k < i → less d[k]! d[a]! = true) (hi : ∀ k, i ≤ k → k < b → less d[k]! d[a]! = false) :
    Part a b d (upR a (i - 1 - a) d) (merge less (seg d.toList a (a + 1)) (seg d.toList (a + 1) b)) := by
  obtain ⟨hs, hat⟩ := upR_at a d (i - 1 - a) (by omega)
  refine ⟨hs, fun k hk => by rw [hat, if_neg (by omega), if_neg (by omega)], ?_⟩
  rw [seg_one (by omega), ← seg_app (D := d.toList) h1 h2, merge_one_left (fun y hy => ?_) (fun y hy => ?_)]
  · rw [← seg_app (D := (upR a (i - 1 - a) d).toList) (show a ≤ i - 1 by omega) (show i - 1 ≤ b by omega), ← seg_app (D := (upR a (i - 1 - a) d).toList) (show i - 1 ≤ i by omega) h2]
    have e1 : seg (upR a (i - 1 - a) d).toList a (i - 1) = seg d.toList (a + 1) i := seg_ext (by omega) (by omega) (by omega) fun k hk => by rw [hat, if_pos (by omega)]; congr 1; omega
    have e2 : seg (upR a (i - 1 - a) d).toList (i - 1) i = [d[a]!] := by
      have := seg_one (d := upR a (i - 1 - a) d) (i := i - 1) (by omega)
      rw [show i - 1 + 1 = i by omega] at this
      rw [this, hat, if_neg (by omega), if_pos (by omega)]
    have e3 : seg (upR a (i - 1 - a) d).toList i b = seg d.toList i b := seg_ext rfl (by omega) hb fun k hk => by rw [hat, if_neg (by omega), if_neg (by omega)]
    rw [e1, e2, e3]; rfl
  · obtain ⟨c, c1, c2, rfl⟩ := mem_seg_at (by omega) hy
    exact lo c c1 c2
  · obtain ⟨c, c1, c2, rfl⟩ := mem_seg_at hb hy
    exact hi c c1 c2
theorem sym_one_right {d : Array α} {a m i : Nat} (h1 : a ≤ i) (h2 : i ≤ m) (hb : m + 1 ≤ d.size) (lo : ∀ k, a ≤ k → k < i → less d[m]! d[k]! = false) (hi : ∀ k, i ≤ k → k < m → less d[m]! d[k]! = true) :
    Part a (m + 1) d (downR m (m - i) d) (merge less (seg d.toList a m) (seg d.toList m (m + 1))) := by
  obtain ⟨hs, hat⟩ := downR_at m d (by omega) (m - i) (by omega)
  refine ⟨hs, fun k hk => by rw [hat, if_neg (by omega), if_neg (by omega)], ?_⟩
  rw [seg_one (by omega), ← seg_app (D := d.toList) h1 h2, merge_one_right (fun y hy => ?_) (fun y hy => ?_)]
  · rw [← seg_app (D := (downR m (m - i) d).toList) h1 (show i ≤ m + 1 by omega), ← seg_app (D := (downR m (m - i) d).toList) (show i ≤ i + 1 by omega) (show i + 1 ≤ m + 1 by omega)]
    have e1 : seg (downR m (m - i) d).toList a i = seg d.toList a i := seg_ext (by omega) (by omega) (by omega) fun k hk => by rw [hat, if_neg (by omega), if_neg (by omega)]
    have e2 : seg (downR m (m - i) d).toList i (i + 1) = [d[m]!] := by
      rw [seg_one (by omega), hat, if_neg (by omega), if_pos (by omega)]
    have e3 : seg (downR m (m - i) d).toList (i + 1) (m + 1) = seg d.toList i m := seg_ext (by omega) (by omega) (by omega) fun k hk => by rw [hat, if_pos (by omega)]; congr 1; omega
    rw [e1, e2, e3]; rfl
  · obtain ⟨c, c1, c2, rfl⟩ := mem_seg_at (by omega) hy
    exact lo c c1 c2
  · obtain ⟨c, c1, c2, rfl⟩ := mem_seg_at (by omega) hy
    exact hi c c1 c2
theorem rot_same {s m e : Nat} {d : Array α} (h : s = m ∨ e = m) (h1 : s ≤ m) (h2 : m ≤ e) : Rot s m e d d := by
  refine ⟨rfl, fun x => ?_⟩
  unfold rotIx
  by_cases c1 : x < s ∨ e ≤ x
  · rw [if_pos c1]
  · rw [if_neg c1]
    by_cases c2 : x < s + (e - m)
    · rw [if_pos c2]; congr 1; omega
    · rw [if_neg c2]; congr 1; omega
theorem part_left_nil {a s mid : Nat} {d : Array α} (h1 : a ≤ s) (h2 : s ≤ mid) (h : a = s ∨ s = mid) : Part a mid d d (merge less (seg d.toList a s) (seg d.toList s mid)) := by
  have := Part.refl a mid d
  rcases h with rfl | rfl
  · rw [seg_nil (Nat.le_refl a), merge_nil_left]; exact this
  · rw [seg_nil (Nat.le_refl s), merge_nil_right]; exact this
/-- The rotation and the two smaller mergings together. -/
theorem sym_whole (hw : Weak less) {d d1 d2 d3 : Array α} {a m b s e mid : Nat} (hb : b ≤ d.size) (h1 : a ≤ s) (h2 : s ≤ m) (h3 : m ≤ e) (h4 : e ≤ b) (hmid : mid + m = s + e)
    (hL : Sorted less (seg d.toList a m)) (hR : Sorted less (seg d.toList m b))
    (lo : s = a ∨ e = b ∨ less d[e]! d[s - 1]! = false) (hi : s = m ∨ e = m ∨ less d[e - 1]! d[s]! = true)
    (hr : Rot s m e d d1) (hp : Part a mid d1 d2 (merge less (seg d1.toList a s) (seg d1.toList s mid))) (hq : Part mid b d2 d3 (merge less (seg d2.toList mid e) (seg d2.toList e b))) :
    Part a b d d3 (merge less (seg d.toList a m) (seg d.toList m b)) := by
  have z1 := hr.1
  have z2 := hp.size
  have z3 := hq.size
  have r1 : seg d1.toList a s = seg d.toList a s := seg_ext rfl (by omega) (by omega) fun k hk => by rw [hr.2]; unfold rotIx; rw [if_pos (by omega)]
  have r2 : seg d1.toList s mid = seg d.toList m e := seg_ext (by omega) (by omega) (by omega) fun k hk => by rw [hr.2]; unfold rotIx; rw [if_neg (by omega), if_pos (by omega)]; congr 1; omega
  have r3 : seg d1.toList mid e = seg d.toList s m := seg_ext (by omega) (by omega) (by omega) fun k hk => by rw [hr.2]; unfold rotIx; rw [if_neg (by omega), if_neg (by omega)]; congr 1; omega
  have r4 : seg d1.toList e b = seg d.toList e b := seg_ext rfl (by omega) (by omega) fun k hk => by rw [hr.2]; unfold rotIx; rw [if_pos (by omega)]
  refine ⟨by omega, fun k hk => ?_, ?_⟩
  · rw [hq.out k (by omega), hp.out k (by omega), hr.2]
    unfold rotIx
    rw [if_pos (by omega)]
  · rw [← seg_app (D := d3.toList) (show a ≤ mid by omega) (show mid ≤ b by omega), hq.seg, hq.far (Or.inl (Nat.le_refl mid)) (by omega), hp.seg, hp.far (i := mid) (j := e) (Or.inr (Nat.le_refl _)) (by omega), hp.far (i := e) (j := b) (Or.inr (by omega)) (by omega), r1, r2, r3, r4]
    refine (sym_cut hw (by simpa using hb) h1 h2 h3 h4 hL hR ?_ ?_).symm
    · rcases lo with lo | lo | lo
      · exact .inl lo
      · exact .inr (.inl lo)
      · by_cases c1 : s = a
        · exact .inl c1
        · by_cases c2 : e = b
          · exact .inr (.inl c2)
          · refine .inr (.inr fun x y hx hy => ?_)
            rw [list_at (by omega)] at hx hy
            cases hx; cases hy
            exact lo
    · rcases hi with hi | hi | hi
      · exact .inl hi
      · exact .inr (.inl hi)
      · by_cases c1 : s = m
        · exact .inl c1
        · by_cases c2 : e = m
          · exact .inr (.inl c2)
          · refine .inr (.inr fun x y hx hy => ?_)
            rw [list_at (by omega)] at hx hy
            cases hx; cases hy
            exact hi
/-- What the smaller mergings ask. -/
theorem sym_sorted {d d1 : Array α} {a m b s e mid : Nat} (hb : b ≤ d.size) (h1 : a ≤ s) (h2 : s ≤ m) (h3 : m ≤ e) (h4 : e ≤ b) (hmid : mid + m = s + e) (hL : Sorted less (seg d.toList a m)) (hR : Sorted less (seg d.toList m b)) (hr : Rot s m e d d1) :
    Sorted less (seg d1.toList a s) ∧ Sorted less (seg d1.toList s mid) ∧ Sorted less (seg d1.toList mid e) ∧ Sorted less (seg d1.toList e b) := by
  have z1 := hr.1
  have r1 : seg d1.toList a s = seg d.toList a s := seg_ext rfl (by omega) (by omega) fun k hk => by rw [hr.2]; unfold rotIx; rw [if_pos (by omega)]
  have r2 : seg d1.toList s mid = seg d.toList m e := seg_ext (by omega) (by omega) (by omega) fun k hk => by rw [hr.2]; unfold rotIx; rw [if_neg (by omega), if_pos (by omega)]; congr 1; omega
  have r3 : seg d1.toList mid e = seg d.toList s m := seg_ext (by omega) (by omega) (by omega) fun k hk => by rw [hr.2]; unfold rotIx; rw [if_neg (by omega), if_neg (by omega)]; congr 1; omega
  have r4 : seg d1.toList e b = seg d.toList e b := seg_ext rfl (by omega) (by omega) fun k hk => by rw [hr.2]; unfold rotIx; rw [if_pos (by omega)]
  rw [r1, r2, r3, r4]
  exact ⟨hL.sub (Nat.le_refl _) h1 h2, hR.sub (Nat.le_refl _) h3 h4, hL.sub h1 h2 (Nat.le_refl _), hR.sub h3 h4 (Nat.le_refl _)⟩

/-! ### The binary searches -/
theorem bs1_lo (hw : Weak less) {d : Array α} {m b h : Nat} {x : α} (hR : Sorted less (seg d.toList m b)) (hb : b ≤ d.size) (h2 : h < b) (ht : less d[h]! x = true) : ∀ k, m ≤ k → k < h + 1 → less d[k]! x = true := fun k k1 k2 => by
  cases hk : less d[k]! x with
  | true => rfl
  | false =>
    have := hw.nt x d[k]! d[h]! hk (hR.at_ hw hb k1 (show k ≤ h by omega) h2)
    rw [ht] at this; cases this
theorem bs1_hi (hw : Weak less) {d : Array α} {m b h : Nat} {x : α} (hR : Sorted less (seg d.toList m b)) (hb : b ≤ d.size) (h1 : m ≤ h) (ht : less d[h]! x = false) : ∀ k, h ≤ k → k < b → less d[k]! x = false := fun k k1 k2 =>
  hw.nt x d[h]! d[k]! ht (hR.at_ hw hb h1 k1 k2)
theorem bs2_lo (hw : Weak less) {d : Array α} {a m h : Nat} {x : α} (hL : Sorted less (seg d.toList a m)) (hb : m ≤ d.size) (h2 : h < m) (ht : less x d[h]! = false) : ∀ k, a ≤ k → k < h + 1 → less x d[k]! = false := fun k k1 k2 =>
  hw.nt d[k]! d[h]! x (hL.at_ hw hb k1 (show k ≤ h by omega) h2) ht
theorem bs2_hi (hw : Weak less) {d : Array α} {a m h : Nat} {x : α} (hL : Sorted less (seg d.toList a m)) (hb : m ≤ d.size) (h1 : a ≤ h) (ht : less x d[h]! = true) : ∀ k, h ≤ k → k < m → less x d[k]! = true := fun k k1 k2 => by
  cases hk : less x d[k]! with
  | true => rfl
  | false =>
    have := hw.nt d[h]! d[k]! x (hL.at_ hw hb h1 k1 k2) hk
    rw [ht] at this; cases this

/-! ### Blocks -/
theorem Sor.merge (hw : Weak less) {d d1 d2 : Array α} {i j k : Nat} (h1 : i ≤ j) (h2 : j ≤ k) (a : Sor less d d1 i j) (b : Sor less d d1 j k) (hp : Part i k d1 d2 (Stab.merge less (seg d1.toList i j) (seg d1.toList j k))) : Sor less d d2 i k := by
  unfold Sor at *
  rw [hp.seg, a, b, ← isort_app hw, seg_app h1 h2]
theorem Sor.far {d d1 d2 : Array α} {i j a b : Nat} {l : List α} (h : Sor less d d1 i j) (hp : Part a b d1 d2 l) (hij : j ≤ a ∨ b ≤ i) (hj : j ≤ d1.size) : Sor less d d2 i j := by
  unfold Sor at *
  rw [hp.far hij hj, h]
theorem Sor.fresh {d d1 d2 : Array α} {i j : Nat} {l : List α} (hs : d1.size = d.size) (hj : j ≤ d.size) (he : ∀ k, i ≤ k → d1[k]! = d[k]!) (hp : Part i j d1 d2 l) (hl : l = isort less (seg d1.toList i j)) : Sor less d d2 i j := by
  unfold Sor
  rw [hp.seg, hl]
  congr 1
  exact seg_ext rfl (by omega) hj fun k _ => he _ (by omega)
/-- Blocks of size B at multiples of B, each sorted. -/
def Blocks (less : α → α → Bool) (d d' : Array α) (B n : Nat) : Prop := ∀ i, B ∣ i → i < n → Sor less d d' i (min n (i + B))
/-- Midway in a round of mergings: ahead of a the blocks of size 2B, from a on those of size B. -/
def Mid (less : α → α → Bool) (d d' : Array α) (B n a : Nat) : Prop := (2 * B) ∣ a ∧ (∀ i, (2 * B) ∣ i → i + 2 * B ≤ a → Sor less d d' i (i + 2 * B)) ∧ ∀ i, B ∣ i → a ≤ i → i < n → Sor less d d' i (min n (i + B))
theorem dvd_lt {B i a : Nat} (h1 : B ∣ i) (h2 : B ∣ a) (h : i < a) : i + B ≤ a := by
  obtain ⟨x, rfl⟩ := h1
  obtain ⟨y, rfl⟩ := h2
  have : x < y := by
    rcases Nat.lt_or_ge x y with h' | h'
    · exact h'
    · exact absurd (Nat.mul_le_mul_left B h') (by omega)
  have := Nat.mul_le_mul_left B (show x + 1 ≤ y from this)
  rw [Nat.mul_add, Nat.mul_one] at this
  exact this
/-- The first round: blocks of size B ahead of a, from a on as it was. -/
def Ins (less : α → α → Bool) (d dk : Array α) (B a : Nat) : Prop := B ∣ a ∧ (∀ i, B ∣ i → i + B ≤ a → Sor less d dk i (i + B)) ∧ ∀ k, a ≤ k → dk[k]! = d[k]!
theorem Ins.start (d : Array α) {B : Nat} (hB : 0 < B) : Ins less d d B 0 := ⟨⟨0, rfl⟩, fun i _ h => by omega, fun _ _ => rfl⟩
theorem Ins.step {d dk d2 : Array α} {B a b : Nat} (h : Ins less d dk B a) (hb : b = a + B) (hz : dk.size = d.size) (hbn : b ≤ d.size) (hp : Part a b dk d2 (isort less (seg dk.toList a b))) : Ins less d d2 B b := by
  obtain ⟨h1, h2, h3⟩ := h
  subst hb
  refine ⟨Nat.dvd_add h1 (Nat.dvd_refl _), fun i hd hi => ?_, fun k hk => by rw [hp.out k (Or.inr hk)]; exact h3 k (by omega)⟩
  by_cases e : i = a
  · subst e
    exact Sor.fresh hz hbn (fun k hk => h3 k hk) hp rfl
  · by_cases e2 : i + B ≤ a
    · exact (h2 i hd e2).far hp (Or.inl e2) (by omega)
    · rcases Nat.lt_or_ge i a with h' | h'
      · exact absurd (dvd_lt hd h1 h') e2
      · have := dvd_lt h1 hd (by omega)
        omega
theorem Ins.done {d dk d2 : Array α} {B a : Nat} (h : Ins less d dk B a) (hz : dk.size = d.size) (han : a ≤ d.size) (hbn : d.size < a + B) (hp : Part a d.size dk d2 (isort less (seg dk.toList a d.size))) : Blocks less d d2 B d.size := by
  obtain ⟨h1, h2, h3⟩ := h
  intro i hd hi
  by_cases e : i = a
  · subst e
    rw [show min d.size (i + B) = d.size by omega]
    exact Sor.fresh hz (Nat.le_refl _) (fun k hk => h3 k hk) hp rfl
  · rcases Nat.lt_or_ge i a with h' | h'
    · have := dvd_lt hd h1 h'
      rw [show min d.size (i + B) = i + B by omega]
      exact (h2 i hd this).far hp (Or.inl this) (by omega)
    · have := dvd_lt h1 hd (by omega)
      omega
omit [Inhabited α] in
theorem Mid.start {d d' : Array α} {B n : Nat} (h : Blocks less d d' B n) : Mid less d d' B n 0 :=
  ⟨⟨0, rfl⟩, fun i _ hi => by
    by_cases hB : B = 0
    · subst hB
      obtain rfl : i = 0 := by omega
      unfold Sor
      rw [seg_nil (by omega), seg_nil (by omega)]; rfl
    · omega, fun i hd _ hi => h i hd hi⟩
theorem two_dvd {B a : Nat} (h : (2 * B) ∣ a) : B ∣ a := by
  obtain ⟨x, rfl⟩ := h
  exact ⟨2 * x, by rw [Nat.mul_comm 2 B, Nat.mul_assoc]⟩
omit [Inhabited α] in
theorem Mid.ask (hw : Weak less) {d d' : Array α} {B n a m b : Nat} (h : Mid less d d' B n a) (hm : m = a + B) (hmn : m < n) (hb : b = min n (a + 2 * B)) : Sorted less (seg d'.toList a m) ∧ Sorted less (seg d'.toList m b) := by
  obtain ⟨h1, _, h3⟩ := h
  subst hm
  have e1 := h3 a (two_dvd h1) (Nat.le_refl _) (by omega)
  have e2 := h3 (a + B) (Nat.dvd_add (two_dvd h1) (Nat.dvd_refl B)) (by omega) hmn
  rw [show min n (a + B) = a + B by omega] at e1
  rw [show min n (a + B + B) = b by omega] at e2
  exact ⟨e1.sorted hw, e2.sorted hw⟩
theorem Mid.merged (hw : Weak less) {d d' d2 : Array α} {B n a m b : Nat} (h : Mid less d d' B n a) (hz : d'.size = n) (hm : m = a + B) (hmn : m < n) (hb : b = min n (a + 2 * B)) (hp : Part a b d' d2 (Stab.merge less (seg d'.toList a m) (seg d'.toList m b))) :
    Sor less d d2 a b ∧ (∀ i, (2 * B) ∣ i → i + 2 * B ≤ a → Sor less d d2 i (i + 2 * B)) ∧ ∀ i, B ∣ i → a + 2 * B ≤ i → i < n → Sor less d d2 i (min n (i + B)) := by
  obtain ⟨h1, h2, h3⟩ := h
  subst hm
  have e1 := h3 a (two_dvd h1) (Nat.le_refl _) (by omega)
  have e2 := h3 (a + B) (Nat.dvd_add (two_dvd h1) (Nat.dvd_refl B)) (by omega) hmn
  rw [show min n (a + B) = a + B by omega] at e1
  rw [show min n (a + B + B) = b by omega] at e2
  exact ⟨Sor.merge hw (by omega) (by omega) e1 e2 hp, fun i hd hi => (h2 i hd hi).far hp (Or.inl hi) (by omega), fun i hd hi hin => (h3 i hd (by omega) hin).far hp (Or.inr (by omega)) (by omega)⟩
theorem Mid.step (hw : Weak less) {d d' d2 : Array α} {B n a m b : Nat} (h : Mid less d d' B n a) (hB : 0 < B) (hz : d'.size = n) (hm : m = a + B) (hb : b = a + 2 * B) (hbn : b ≤ n) (hp : Part a b d' d2 (Stab.merge less (seg d'.toList a m) (seg d'.toList m b))) : Mid less d d2 B n b := by
  obtain ⟨g1, g2, g3⟩ := h.merged hw hz hm (by omega) (by omega) hp
  subst hb
  refine ⟨Nat.dvd_add h.1 (Nat.dvd_refl _), fun i hd hi => ?_, g3⟩
  by_cases e : i = a
  · subst e; exact g1
  · exact g2 i hd (dvd_lt hd h.1 (by omega))
/-- Behind the last merging. -/
theorem Mid.last (hw : Weak less) {d d' d2 : Array α} {B n a m : Nat} (h : Mid less d d' B n a) (hz : d'.size = n) (hm : m = a + B) (hmn : m < n) (hbn : n < a + 2 * B) (hp : Part a n d' d2 (Stab.merge less (seg d'.toList a m) (seg d'.toList m n))) : Blocks less d d2 (2 * B) n := by
  obtain ⟨g1, g2, _⟩ := h.merged hw hz hm hmn (b := n) (by omega) hp
  intro i hd hi
  by_cases e : i = a
  · subst e
    rw [show min n (i + 2 * B) = n by omega]; exact g1
  · rcases Nat.lt_or_ge i a with h' | h'
    · have := dvd_lt hd h.1 h'
      rw [show min n (i + 2 * B) = i + 2 * B by omega]
      exact g2 i hd this
    · have := dvd_lt h.1 hd (by omega)
      omega
omit [Inhabited α] in
theorem Mid.none {d d' : Array α} {B n a m : Nat} (h : Mid less d d' B n a) (han : a ≤ n) (hB : 0 < B) (hm : m = a + B) (hmn : n ≤ m) : Blocks less d d' (2 * B) n := by
  intro i hd hi
  by_cases e : i = a
  · subst e
    have e1 := h.2.2 i (two_dvd hd) (Nat.le_refl _) hi
    rw [show min n (i + B) = n by omega] at e1
    rw [show min n (i + 2 * B) = n by omega]; exact e1
  · rcases Nat.lt_or_ge i a with h' | h'
    · have := dvd_lt hd h.1 h'
      rcases Nat.lt_or_ge n (i + 2 * B) with h'' | h''
      · omega
      · rw [show min n (i + 2 * B) = i + 2 * B by omega]
        exact h.2.1 i hd this
    · have := dvd_lt h.1 hd (by omega)
      omega
omit [Inhabited α] in
theorem Blocks.whole {d d' : Array α} {B n : Nat} (h : Blocks less d d' B n) (h1 : d'.size = n) (h2 : d.size = n) (hB : n ≤ B) : d'.toList = isort less d.toList := by
  rcases Nat.eq_zero_or_pos n with h0 | h0
  · subst h0
    have e1 : d'.toList = [] := List.eq_nil_of_length_eq_zero (by simpa using h1)
    have e2 : d.toList = [] := List.eq_nil_of_length_eq_zero (by simpa using h2)
    rw [e1, e2]; rfl
  · have := h 0 ⟨0, rfl⟩ h0
    rw [show min n (0 + B) = n by omega] at this
    unfold Sor seg at this
    simpa [List.take_of_length_le, h1, h2] using this
end
end Go.Proofs.YthchnabhbpdfgaaDoor.Stab
end

section
namespace Go.Proofs.YthchnabhbpdfgaaDoor
open Go.RowKit Go.Sort
/-- Four values. -/
structure V4 where
  e0 : Value
  e1 : Value
  e2 : Value
  e3 : Value
instance : Inhabited V4 := ⟨⟨.bool false, .bool false, .bool false, .bool false⟩⟩
def V4.cells (x : V4) : List Value := [x.e0, x.e1, x.e2, x.e3]
def V4.agg (x : V4) : Value := .agg #[x.e0, x.e1, x.e2, x.e3]
def V4.cell (x : V4) (j : Nat) : Value := if j = 0 then x.e0 else if j = 1 then x.e1 else if j = 2 then x.e2 else x.e3
/-- The block holds the row d, and whatever behind it; all else is as in W0, but for what is new. -/
structure Row (Fm : V4 → Prop) (W0 W : World) (blk : Nat) (t : TypeId) (tl : List Value) (d : Array V4) : Prop where
  keeps : Keeps (· = blk) W0 W
  blk : Blk W blk t (d.toList.flatMap V4.cells ++ tl)
  one : ∀ i, i < d.size → Fm d[i]!
theorem flat4_len : ∀ l : List V4, (l.flatMap V4.cells).length = l.length * 4
  | [] => rfl
  | x :: l => by
    rw [List.flatMap_cons, List.length_append, flat4_len l, List.length_cons]
    simp only [V4.cells, List.length_cons, List.length_nil]; omega
theorem flat4_get : ∀ (l : List V4) (i : Nat) (x : V4) (j : Nat), l[i]? = some x → j < 4 → (l.flatMap V4.cells)[i * 4 + j]? = some (x.cell j)
  | [], _, _, _, h, _ => by simp at h
  | y :: l, 0, x, j, h, hj => by
    simp at h; subst h
    rw [List.flatMap_cons, Nat.zero_mul, Nat.zero_add, List.getElem?_append_left (by simpa [V4.cells] using hj)]
    match j, hj with
    | 0, _ => rfl
    | 1, _ => rfl
    | 2, _ => rfl
    | 3, _ => rfl
  | y :: l, i + 1, x, j, h, hj => by
    rw [List.flatMap_cons, List.getElem?_append_right (by simp [V4.cells]; omega), ← flat4_get l i x j (by simpa using h) hj]
    congr 1
    simp [V4.cells]; omega
theorem flat4_set : ∀ (l : List V4) (i : Nat) (y : V4), i < l.length → ((((l.flatMap V4.cells).set (i * 4) y.e0).set (i * 4 + 1) y.e1).set (i * 4 + 2) y.e2).set (i * 4 + 3) y.e3 = (l.set i y).flatMap V4.cells
  | [], _, _, h => by simp at h
  | z :: l, 0, y, h => by
    rw [List.flatMap_cons, List.set_cons_zero, List.flatMap_cons]
    rfl
  | z :: l, i + 1, y, h => by
    rw [List.flatMap_cons, List.set_cons_succ, List.flatMap_cons, ← flat4_set l i y (by simpa using h)]
    have e : z.cells.length = 4 := rfl
    rw [List.set_append, if_neg (by omega), List.set_append, if_neg (by omega), List.set_append, if_neg (by omega), List.set_append, if_neg (by omega)]
    congr 1
    rw [e, show (i + 1) * 4 - 4 = i * 4 by omega, show (i + 1) * 4 + 1 - 4 = i * 4 + 1 by omega, show (i + 1) * 4 + 2 - 4 = i * 4 + 2 by omega, show (i + 1) * 4 + 3 - 4 = i * 4 + 3 by omega]
section
variable {Fm : V4 → Prop} {W0 W W' : World} {blk : Nat} {t : TypeId} {tl : List Value} {d : Array V4}
theorem Row.at_ (h : Row Fm W0 W blk t tl d) {i : Nat} (hi : i < d.size) {x : V4} (hx : d[i]! = x) {off : Nat} (ho : off = 0) :
    W.cell? ⟨blk, off + i * 4, none⟩ = some x.e0 ∧ W.cell? ⟨blk, off + i * 4 + 1, none⟩ = some x.e1 ∧ W.cell? ⟨blk, off + i * 4 + 2, none⟩ = some x.e2 ∧ W.cell? ⟨blk, off + i * 4 + 3, none⟩ = some x.e3 := by
  subst ho
  have hl : d.toList[i]? = some x := by rw [Stab.list_at hi, hx]
  have g : ∀ j, j < 4 → (d.toList.flatMap V4.cells ++ tl)[i * 4 + j]? = some (x.cell j) := fun j hj => by
    rw [List.getElem?_append_left (by rw [flat4_len, Array.length_toList]; omega)]
    exact flat4_get _ _ _ _ hl hj
  rw [Nat.zero_add]
  exact ⟨h.blk.cell (g 0 (by omega)), h.blk.cell (g 1 (by omega)), h.blk.cell (g 2 (by omega)), h.blk.cell (g 3 (by omega))⟩
theorem Row.free (h : Row Fm W0 W blk t tl d) (i : Nat) : W.frozen? ⟨blk, i, none⟩ = false := h.blk.free i
theorem Row.lt (h : Row Fm W0 W blk t tl d) : blk < W.heap.size := h.blk.lt
theorem Row.later (h : Row Fm W0 W blk t tl d) (hb : Below W.heap.size W W') : Row Fm W0 W' blk t tl d :=
  ⟨h.keeps.trans (Keeps.of_below (X := fun _ => False) hb) (fun _ _ h => h.elim), h.blk.later hb, h.one⟩
theorem Row.drew (h : Row Fm W0 W blk t tl d) : Row Fm W0 W.drew blk t tl d := ⟨h.keeps.drew, h.blk, h.one⟩
theorem Row.drewN (h : Row Fm W0 W blk t tl d) (n : Nat) : Row Fm W0 (W.drewN n) blk t tl d := ⟨h.keeps.drewN n, h.blk, h.one⟩
/-- Four stores in a run. -/
theorem Row.set4 (h : Row Fm W0 W blk t tl d) {i : Nat} (hi : i < d.size) (y : V4) (h1 : Fm y) {off : Nat} (ho : off = 0) :
    Row Fm W0 ((((W.setCell ⟨blk, off + i * 4, none⟩ y.e0).setCell ⟨blk, off + i * 4 + 1, none⟩ y.e1).setCell ⟨blk, off + i * 4 + 2, none⟩ y.e2).setCell ⟨blk, off + i * 4 + 3, none⟩ y.e3) blk t tl (d.setIfInBounds i y) := by
  subst ho
  refine ⟨(((h.keeps.setCell (p := ⟨blk, 0 + i * 4, none⟩) (fun _ => rfl) _).setCell (p := ⟨blk, 0 + i * 4 + 1, none⟩) (fun _ => rfl) _).setCell (p := ⟨blk, 0 + i * 4 + 2, none⟩) (fun _ => rfl) _).setCell (p := ⟨blk, 0 + i * 4 + 3, none⟩) (fun _ => rfl) _, ?_, fun k hk => ?_⟩
  rotate_left
  · have hk' : k < d.size := by simpa using hk
    rw [getElem!_pos _ k hk, Array.getElem_setIfInBounds hk']
    split
    · exact h1
    · rw [← getElem!_pos d k hk']; exact h.one k hk'
  have hb := (((h.blk.set_ (0 + i * 4) y.e0).set_ (0 + i * 4 + 1) y.e1).set_ (0 + i * 4 + 2) y.e2).set_ (0 + i * 4 + 3) y.e3
  have hl : (d.toList.flatMap V4.cells).length = d.size * 4 := by rw [flat4_len, Array.length_toList]
  rw [Nat.zero_add, List.set_append, if_pos (by omega), List.set_append, if_pos (by simp only [List.length_set]; omega), List.set_append, if_pos (by simp only [List.length_set]; omega), List.set_append, if_pos (by simp only [List.length_set]; omega),
    flat4_set _ _ _ (by simpa using hi)] at hb
  rw [Array.toList_setIfInBounds]
  rw [Nat.zero_add]
  exact hb
/-- An exchange. -/
theorem Row.swap (h : Row Fm W0 W blk t tl d) {i j : Nat} (hi : i < d.size) (hj : j < d.size) {x y : V4} (hx : d[i]! = x) (hy : d[j]! = y) {off : Nat} (ho : off = 0) :
    Row Fm W0 ((((((((W.setCell ⟨blk, off + i * 4, none⟩ y.e0).setCell ⟨blk, off + i * 4 + 1, none⟩ y.e1).setCell ⟨blk, off + i * 4 + 2, none⟩ y.e2).setCell ⟨blk, off + i * 4 + 3, none⟩ y.e3).setCell ⟨blk, off + j * 4, none⟩ x.e0).setCell ⟨blk, off + j * 4 + 1, none⟩ x.e1).setCell ⟨blk, off + j * 4 + 2, none⟩ x.e2).setCell ⟨blk, off + j * 4 + 3, none⟩ x.e3) blk t tl (swp d i j) := by
  have := (h.set4 hi y (hy ▸ h.one j hj) ho).set4 (i := j) (by simpa using hj) x (hx ▸ h.one i hi) ho
  unfold swp
  rw [hx, hy]
  exact this
/-- A row of the call's own. -/
theorem Row.of_own {base n cap : Nat} {xs : List Value} (h : W.ownsRow base t 4 (.slice (some ⟨blk, 0, none⟩) n cap) n xs) (hx : xs = d.toList.flatMap V4.cells) (h1o : ∀ i, i < d.size → Fm d[i]!) : d.size = n ∧ ∃ tl, Row Fm W W blk t tl d := by
  obtain ⟨h1, h2⟩ := h
  have hn : d.size = n := by rw [hx, flat4_len, Array.length_toList] at h1; omega
  refine ⟨hn, ?_⟩
  rcases h2 with ⟨h2, _⟩ | ⟨g, c, cur, e1, _, e3, _, _, _, e7⟩
  · simp at h2
  · simp only [Value.slice.injEq, Option.some.injEq, Addr.mk.injEq, true_and, and_true] at e1
    obtain ⟨rfl, rfl⟩ := e1
    refine ⟨cur.toList.drop (n * 4), Keeps.refl _ _, ?_, h1o⟩
    unfold Blk
    rw [e3, ← hx, ← e7, List.take_append_drop]
theorem Row.own (h : Row Fm W0 W blk t tl d) {base n cap : Nat} (hn : d.size = n) (hb : base ≤ blk) (hc : n ≤ cap) (hm : cap ≤ maxLen) (hl : n * 4 + tl.length = cap * 4) :
    W.ownsRow base t 4 (.slice (some ⟨blk, 0, none⟩) n cap) n (d.toList.flatMap V4.cells) := by
  have hf : (d.toList.flatMap V4.cells).length = n * 4 := by rw [flat4_len, Array.length_toList, hn]
  refine ⟨hf, .inr ⟨blk, cap, _, rfl, hb, h.blk, hc, hm, by simp only [List.size_toArray, List.length_append]; omega, ?_⟩⟩
  rw [List.toList_toArray, List.take_append_of_le_length (by omega), List.take_of_length_le (by omega)]
end
end Go.Proofs.YthchnabhbpdfgaaDoor
end
