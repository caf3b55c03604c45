/- Stable sorting in plain words: merging, insertion sort, what a symmetric split of two rows says. No program in sight. -/
namespace Go.Proofs.YtdljlpogljjldaaDoor.Stab
section
variable {α : Type}
/-- 'less' is a strict order in which what is not comparable is alike. -/
structure Weak (less : α → α → Bool) : Prop where
  tr : ∀ a b c, less a b = true → less b c = true → less a c = true
  nt : ∀ a b c, less b a = false → less c b = false → less c a = false
  ir : ∀ a, less a a = false
variable {less : α → α → Bool}
/-- Two rows become one; of those that are alike the left one's come first. -/
def merge (less : α → α → Bool) : List α → List α → List α
  | [], r => r
  | l, [] => l
  | x :: l, y :: r => if less y x then y :: merge less (x :: l) r else x :: merge less l (y :: r)
termination_by l r => l.length + r.length
theorem merge_nil_left (r : List α) : merge less [] r = r := by rw [merge]
theorem merge_nil_right (l : List α) : merge less l [] = l := by cases l <;> rw [merge]; exact fun h => by cases h
theorem merge_cons (x y : α) (l r : List α) : merge less (x :: l) (y :: r) = if less y x then y :: merge less (x :: l) r else x :: merge less l (y :: r) := by rw [merge]
theorem merge_length : ∀ (n : Nat) (l r : List α), l.length + r.length = n → (merge less l r).length = n
  | _, [], r, h => by rw [merge_nil_left]; simpa using h
  | _, x :: l, [], h => by rw [merge_nil_right]; simpa using h
  | 0, x :: l, y :: r, h => by simp at h
  | n + 1, x :: l, y :: r, h => by
    rw [merge_cons]
    split
    · rw [List.length_cons, merge_length n (x :: l) r (by simp only [List.length_cons] at h ⊢; omega)]
    · rw [List.length_cons, merge_length n l (y :: r) (by simp only [List.length_cons] at h ⊢; omega)]
/-- A split of both rows that parts what comes first from what comes later. -/
theorem merge_split : ∀ (n : Nat) (l1 r1 l2 r2 : List α), l1.length + r1.length = n → (∀ x ∈ l1, ∀ y ∈ r2, less y x = false) → (∀ y ∈ r1, ∀ x ∈ l2, less y x = true) →
    merge less (l1 ++ l2) (r1 ++ r2) = merge less l1 r1 ++ merge less l2 r2
  | _, [], [], l2, r2, _, _, _ => by rw [merge_nil_left]; rfl
  | n, x :: l1, [], l2, r2, hn, h1, h2 => by
    rw [merge_nil_right]
    cases n with
    | zero => simp at hn
    | succ n =>
    have ih := merge_split n l1 [] l2 r2 (by simpa using hn) (fun z hz => h1 z (List.mem_cons_of_mem _ hz)) h2
    rw [merge_nil_right] at ih
    cases r2 with
    | nil => rw [List.append_nil, merge_nil_right, merge_nil_right]
    | cons y r2 =>
      have : less y x = false := h1 x List.mem_cons_self y List.mem_cons_self
      show merge less (x :: (l1 ++ l2)) (y :: r2) = _
      rw [merge_cons, this, if_neg (by simp)]
      show x :: merge less (l1 ++ l2) ([] ++ y :: r2) = _
      rw [ih]; rfl
  | n, [], y :: r1, l2, r2, hn, h1, h2 => by
    rw [merge_nil_left]
    cases n with
    | zero => simp at hn
    | succ n =>
    have ih := merge_split n [] r1 l2 r2 (by simpa using hn) h1 (fun z hz => h2 z (List.mem_cons_of_mem _ hz))
    rw [merge_nil_left] at ih
    cases l2 with
    | nil => rw [List.nil_append, merge_nil_left, merge_nil_left]
    | cons x l2 =>
      have : less y x = true := h2 y List.mem_cons_self x List.mem_cons_self
      show merge less (x :: l2) (y :: (r1 ++ r2)) = _
      rw [merge_cons, this, if_pos rfl]
      show y :: merge less ([] ++ x :: l2) (r1 ++ r2) = _
      rw [ih]; rfl
  | n, x :: l1, y :: r1, l2, r2, hn, h1, h2 => by
    cases n with
    | zero => simp at hn
    | succ n =>
    show merge less (x :: (l1 ++ l2)) (y :: (r1 ++ r2)) = _
    rw [merge_cons, merge_cons]
    split
    · have ih := merge_split n (x :: l1) r1 l2 r2 (by simp only [List.length_cons] at hn ⊢; omega) h1 (fun z hz => h2 z (List.mem_cons_of_mem _ hz))
      show y :: merge less ((x :: l1) ++ l2) (r1 ++ r2) = _
      rw [ih]; rfl
    · have ih := merge_split n l1 (y :: r1) l2 r2 (by simp only [List.length_cons] at hn ⊢; omega) (fun z hz => h1 z (List.mem_cons_of_mem _ hz)) h2
      show x :: merge less (l1 ++ l2) ((y :: r1) ++ r2) = _
      rw [ih]; rfl
theorem merge_assoc (hw : Weak less) : ∀ (n : Nat) (a b c : List α), a.length + b.length + c.length = n → merge less (merge less a b) c = merge less a (merge less b c)
  | _, [], b, c, _ => by rw [merge_nil_left, merge_nil_left]
  | _, x :: a, [], c, _ => by rw [merge_nil_right, merge_nil_left]
  | _, x :: a, y :: b, [], _ => by rw [merge_nil_right, merge_nil_right]
  | 0, x :: a, y :: b, z :: c, h => by simp at h
  | n + 1, x :: a, y :: b, z :: c, h => by
    simp only [List.length_cons] at h
    rw [merge_cons x y, merge_cons y z]
    by_cases h1 : less y x = true
    · rw [if_pos h1, merge_cons]
      by_cases h2 : less z y = true
      · rw [if_pos h2, if_pos h2, merge_cons x z, if_pos (hw.tr z y x h2 h1)]
        have ih := merge_assoc hw n (x :: a) (y :: b) c (by simp only [List.length_cons]; omega)
        rw [merge_cons x y, if_pos h1] at ih
        rw [ih]
      · rw [if_neg h2, if_neg h2, merge_cons x y, if_pos h1]
        have ih := merge_assoc hw n (x :: a) b (z :: c) (by simp only [List.length_cons]; omega)
        rw [ih]
    · rw [if_neg h1, merge_cons]
      by_cases h2 : less z y = true
      · rw [if_pos h2, merge_cons x z]
        by_cases h3 : less z x = true
        · rw [if_pos h3, if_pos h3]
          have ih := merge_assoc hw n (x :: a) (y :: b) c (by simp only [List.length_cons]; omega)
          rw [merge_cons x y, if_neg h1] at ih
          rw [ih]
        · rw [if_neg h3, if_neg h3]
          have ih := merge_assoc hw n a (y :: b) (z :: c) (by simp only [List.length_cons]; omega)
          rw [merge_cons y z, if_pos h2] at ih
          rw [ih]
      · have h3 : ¬ less z x = true := by
          rw [Bool.not_eq_true] at h1 h2 ⊢
          exact hw.nt x y z h1 h2
        rw [if_neg h2, if_neg h3, merge_cons x y, if_neg h1]
        have ih := merge_assoc hw n a (y :: b) (z :: c) (by simp only [List.length_cons]; omega)
        rw [merge_cons y z, if_neg h2] at ih
        rw [ih]
/-- Sorted, those that are alike in their old order. -/
def isort (less : α → α → Bool) : List α → List α
  | [] => []
  | x :: l => merge less [x] (isort less l)
theorem isort_app (hw : Weak less) : ∀ a b : List α, isort less (a ++ b) = merge less (isort less a) (isort less b)
  | [], b => by rw [isort, merge_nil_left]; rfl
  | x :: a, b => by
    show merge less [x] (isort less (a ++ b)) = merge less (merge less [x] (isort less a)) (isort less b)
    rw [isort_app hw a b, merge_assoc hw _ _ _ _ rfl]
theorem isort_length : ∀ l : List α, (isort less l).length = l.length
  | [] => rfl
  | x :: l => by
    show (merge less [x] (isort less l)).length = _
    rw [merge_length _ _ _ rfl, isort_length l]; simp; omega
/-- Each is not less than those ahead of it. -/
def Sorted (less : α → α → Bool) (l : List α) : Prop := l.Pairwise fun x y => less y x = false
theorem mem_merge {z : α} : ∀ (n : Nat) (l r : List α), l.length + r.length = n → (z ∈ merge less l r ↔ z ∈ l ∨ z ∈ r)
  | _, [], r, _ => by rw [merge_nil_left]; simp
  | _, x :: l, [], _ => by rw [merge_nil_right]; simp
  | 0, x :: l, y :: r, h => by simp at h
  | n + 1, x :: l, y :: r, h => by
    simp only [List.length_cons] at h
    rw [merge_cons]
    split
    · rw [List.mem_cons, mem_merge n (x :: l) r (by simp only [List.length_cons]; omega)]
      simp only [List.mem_cons]
      constructor
      · rintro (h | h | h)
        · exact .inr (.inl h)
        · exact .inl h
        · exact .inr (.inr h)
      · rintro (h | h | h)
        · exact .inr (.inl h)
        · exact .inl h
        · exact .inr (.inr h)
    · rw [List.mem_cons, mem_merge n l (y :: r) (by simp only [List.length_cons]; omega)]
      simp only [List.mem_cons, or_assoc]
theorem Sorted.merge (hw : Weak less) : ∀ (n : Nat) {l r : List α}, l.length + r.length = n → Sorted less l → Sorted less r → Sorted less (Stab.merge less l r)
  | _, [], r, _, _, h => by rw [merge_nil_left]; exact h
  | _, x :: l, [], _, h, _ => by rw [merge_nil_right]; exact h
  | 0, x :: l, y :: r, h, _, _ => by simp at h
  | n + 1, x :: l, y :: r, h, h1, h2 => by
    simp only [List.length_cons] at h
    have g1 := List.pairwise_cons.1 h1
    have g2 := List.pairwise_cons.1 h2
    rw [merge_cons]
    by_cases hyx : less y x = true
    · rw [if_pos hyx]
      refine List.pairwise_cons.2 ⟨fun z hz => ?_, Sorted.merge hw n (by simp only [List.length_cons]; omega) h1 g2.2⟩
      have hxy : less x y = false := by
        cases hb : less x y with
        | false => rfl
        | true => have := hw.tr x y x hb hyx; rw [hw.ir] at this; cases this
      rcases (mem_merge _ _ _ rfl).1 hz with hz | hz
      · rcases List.mem_cons.1 hz with rfl | hz
        · exact hxy
        · exact hw.nt y x z hxy (g1.1 z hz)
      · exact g2.1 z hz
    · rw [if_neg hyx]
      rw [Bool.not_eq_true] at hyx
      refine List.pairwise_cons.2 ⟨fun z hz => ?_, Sorted.merge hw n (by simp only [List.length_cons]; omega) g1.2 h2⟩
      rcases (mem_merge _ _ _ rfl).1 hz with hz | hz
      · exact g1.1 z hz
      · rcases List.mem_cons.1 hz with rfl | hz
        · exact hyx
        · exact hw.nt x y z hyx (g2.1 z hz)
theorem isort_sorted (hw : Weak less) : ∀ l : List α, Sorted less (isort less l)
  | [] => List.Pairwise.nil
  | _ :: l => Sorted.merge hw _ rfl (List.pairwise_singleton _ _) (isort_sorted hw l)
theorem mem_isort {z : α} : ∀ l : List α, z ∈ isort less l ↔ z ∈ l
  | [] => by simp [isort]
  | x :: l => by
    show z ∈ merge less [x] (isort less l) ↔ _
    rw [mem_merge _ _ _ rfl, mem_isort l]; simp
/-! ### Parts of a row -/
def seg (D : List α) (i j : Nat) : List α := (D.drop i).take (j - i)
theorem seg_get {D : List α} {i j k : Nat} (h : k < j - i) : (seg D i j)[k]? = D[i + k]? := by
  unfold seg
  rw [List.getElem?_take_of_lt h, List.getElem?_drop]
theorem seg_length {D : List α} {i j : Nat} (h : j ≤ D.length) : (seg D i j).length = j - i := by
  unfold seg
  rw [List.length_take, List.length_drop]; omega
theorem mem_seg {D : List α} {i j : Nat} {x : α} (h : x ∈ seg D i j) : ∃ c, i ≤ c ∧ c < j ∧ D[c]? = some x := by
  obtain ⟨k, hk⟩ := List.mem_iff_getElem?.1 h
  have hlt : k < j - i := by
    have h1 : k < (seg D i j).length := (List.getElem?_eq_some_iff.1 hk).1
    unfold seg at h1
    rw [List.length_take] at h1
    omega
  rw [seg_get hlt] at hk
  exact ⟨i + k, by omega, by omega, hk⟩
theorem seg_app {D : List α} {i j k : Nat} (h1 : i ≤ j) (h2 : j ≤ k) : seg D i j ++ seg D j k = seg D i k := by
  unfold seg
  have e1 : D.drop j = (D.drop i).drop (j - i) := by rw [List.drop_drop]; congr 1; omega
  have e2 : k - i = (j - i) + (k - j) := by omega
  rw [e1, e2, List.take_add]
/-- In a sorted part one that stands behind is not less. -/
theorem Sorted.seg_le {D : List α} {i j : Nat} (h : Sorted less (seg D i j)) {c d : Nat} (hw : Weak less) (h1 : i ≤ c) (h2 : c ≤ d) (h3 : d < j) {x y : α} (hx : D[c]? = some x) (hy : D[d]? = some y) : less y x = false := by
  by_cases hcd : c = d
  · subst hcd
    rw [hx] at hy
    cases hy
    exact hw.ir x
  · have gx : (seg D i j)[c - i]? = some x := by rw [seg_get (by omega), show i + (c - i) = c by omega]; exact hx
    have gy : (seg D i j)[d - i]? = some y := by rw [seg_get (by omega), show i + (d - i) = d by omega]; exact hy
    obtain ⟨l1, e1⟩ := List.getElem?_eq_some_iff.1 gx
    obtain ⟨l2, e2⟩ := List.getElem?_eq_some_iff.1 gy
    have := List.pairwise_iff_getElem.1 h (c - i) (d - i) l1 l2 (by omega)
    rw [e1, e2] at this
    exact this
/-- What the symmetric search has found parts the merging in two: 's' the place in the left part, 'e' that in the right one. -/
theorem sym_cut (hw : Weak less) {D : List α} {a m b s e : Nat} (hb : b ≤ D.length) (h1 : a ≤ s) (h2 : s ≤ m) (h3 : m ≤ e) (h4 : e ≤ b) (hL : Sorted less (seg D a m)) (hR : Sorted less (seg D m b))
    (lo : s = a ∨ e = b ∨ ∀ x y, D[s - 1]? = some x → D[e]? = some y → less y x = false) (hi : s = m ∨ e = m ∨ ∀ x y, D[s]? = some x → D[e - 1]? = some y → less y x = true) :
    merge less (seg D a m) (seg D m b) = merge less (seg D a s) (seg D m e) ++ merge less (seg D s m) (seg D e b) := by
  rw [← seg_app (D := D) h1 h2, ← seg_app (D := D) h3 h4]
  refine merge_split _ _ _ _ _ rfl (fun x hx y hy => ?_) (fun y hy x hx => ?_)
  · obtain ⟨c, c1, c2, c3⟩ := mem_seg hx
    obtain ⟨d, d1, d2, d3⟩ := mem_seg hy
    rcases lo with lo | lo | lo
    · omega
    · omega
    · have l1 : s - 1 < D.length := by omega
      have l2 : e < D.length := by omega
      have k1 := lo _ _ (List.getElem?_eq_getElem l1) (List.getElem?_eq_getElem l2)
      have k2 := hL.seg_le hw (c := c) (d := s - 1) c1 (by omega) (by omega) c3 (List.getElem?_eq_getElem l1)
      have k3 := hR.seg_le hw (c := e) (d := d) h3 (by omega) d2 (List.getElem?_eq_getElem l2) d3
      exact hw.nt _ _ _ (hw.nt _ _ _ k2 k1) k3
  · obtain ⟨c, c1, c2, c3⟩ := mem_seg hx
    obtain ⟨d, d1, d2, d3⟩ := mem_seg hy
    rcases hi with hi | hi | hi
    · omega
    · omega
    · have l1 : s < D.length := by omega
      have l2 : e - 1 < D.length := by omega
      have k1 := hi _ _ (List.getElem?_eq_getElem l1) (List.getElem?_eq_getElem l2)
      have k2 := hL.seg_le hw (c := s) (d := c) h1 c1 c2 (List.getElem?_eq_getElem l1) c3
      have k3 := hR.seg_le hw (c := d) (d := e - 1) d1 (by omega) (by omega) d3 (List.getElem?_eq_getElem l2)
      cases hb' : less y x with
      | true => rfl
      | false =>
        have := hw.nt _ _ _ (hw.nt _ _ _ k2 hb') k3
        rw [k1] at this; cases this
/-- A row of one is merged into another: where all ahead are not greater, the rest greater. -/
theorem merge_one_left {x : α} {p q : List α} (h1 : ∀ y ∈ p, less y x = true) (h2 : ∀ y ∈ q, less y x = false) : merge less [x] (p ++ q) = p ++ x :: q := by
  have := merge_split (less := less) _ [] p [x] q rfl (fun _ h => by cases h) (fun y hy z hz => by rw [List.mem_singleton] at hz; subst hz; exact h1 y hy)
  rw [List.nil_append, merge_nil_left] at this
  rw [this]
  congr 1
  cases q with
  | nil => rw [merge_nil_right]
  | cons y q => rw [merge_cons, h2 y List.mem_cons_self, if_neg (by simp), merge_nil_left]
theorem merge_one_right {y : α} {p q : List α} (h1 : ∀ x ∈ p, less y x = false) (h2 : ∀ x ∈ q, less y x = true) : merge less (p ++ q) [y] = p ++ y :: q := by
  have := merge_split (less := less) _ p [] q [y] rfl (fun x hx z hz => by rw [List.mem_singleton] at hz; subst hz; exact h1 x hx) (fun _ h => by cases h)
  rw [List.nil_append, merge_nil_right] at this
  rw [this]
  congr 1
  cases q with
  | nil => rw [merge_nil_left]
  | cons x q => rw [merge_cons, h2 x List.mem_cons_self, if_pos rfl, merge_nil_right]
end
end Go.Proofs.YtdljlpogljjldaaDoor.Stab
