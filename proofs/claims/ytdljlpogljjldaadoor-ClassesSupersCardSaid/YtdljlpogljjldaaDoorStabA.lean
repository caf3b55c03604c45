/- Stable sorting of a row in place, in plain words: what exchanges, rotations, insertion and symmetric merging leave in the row. No program in sight. -/
import Derived.Sort.Defs
import Derived.Test.YtdljlpogljjldaaDoorStab
namespace Go.Proofs.YtdljlpogljjldaaDoor.Stab
open Go.Sort
section
variable {α : Type} {less : α → α → Bool}
theorem seg_nil {D : List α} {i j : Nat} (h : j ≤ i) : seg D i j = [] := by
  unfold seg
  rw [show j - i = 0 by omega, List.take_zero]
theorem Sorted.sub {D : List α} {a b i j : Nat} (h : Sorted less (seg D a b)) (h1 : a ≤ i) (h2 : i ≤ j) (h3 : j ≤ b) : Sorted less (seg D i j) := by
  rw [← seg_app (D := D) h1 (Nat.le_trans h2 h3), ← seg_app (D := D) h2 h3] at h
  exact (List.pairwise_append.1 (List.pairwise_append.1 h).2.1).1
/-- The part from i to j is sorted, of what stood there. -/
def Sor (less : α → α → Bool) (d d' : Array α) (i j : Nat) : Prop := seg d'.toList i j = isort less (seg d.toList i j)
theorem Sor.sorted (hw : Weak less) {d d1 : Array α} {i j : Nat} (h : Sor less d d1 i j) : Sorted less (seg d1.toList i j) := by
  unfold Sor at h
  rw [h]; exact isort_sorted hw _
end
section
variable {α : Type} [Inhabited α] {less : α → α → Bool}
theorem getD_out {d : Array α} {k : Nat} (h : d.size ≤ k) : d[k]! = default := by
  rw [Array.getElem!_eq_getD, Array.getD, dif_neg (Nat.not_lt.2 h)]
theorem list_at {d : Array α} {k : Nat} (h : k < d.size) : d.toList[k]? = some d[k]! := by
  rw [Array.getElem?_toList, Array.getElem?_eq_getElem h, getElem!_pos d k h]
theorem size_swp' (d : Array α) (i j : Nat) : (swp d i j).size = d.size := by simp [swp]
/-- An exchange, place by place. -/
theorem swp_at (d : Array α) {i j : Nat} (hi : i < d.size) (hj : j < d.size) (k : Nat) : (swp d i j)[k]! = if k = j then d[i]! else if k = i then d[j]! else d[k]! := by
  rcases Nat.lt_or_ge k d.size with hk | hk
  · have hk' : k < ((d.setIfInBounds i d[j]!).setIfInBounds j d[i]!).size := by simpa using hk
    show ((d.setIfInBounds i d[j]!).setIfInBounds j d[i]!)[k]! = _
    rw [getElem!_pos _ k hk', Array.getElem_setIfInBounds (by simpa using hk), Array.getElem_setIfInBounds hk, getElem!_pos d k hk]
    by_cases h1 : k = j
    · rw [if_pos h1, if_pos h1.symm]
    · rw [if_neg h1, if_neg (fun e => h1 e.symm)]
      by_cases h2 : k = i
      · rw [if_pos h2, if_pos h2.symm]
      · rw [if_neg h2, if_neg (fun e => h2 e.symm)]
  · rw [getD_out (by rw [size_swp']; exact hk), if_neg (by omega), if_neg (by omega), getD_out hk]
theorem seg_ext {d d' : Array α} {i j i' j' : Nat} (hl : j - i = j' - i') (hj : j ≤ d.size) (hj' : j' ≤ d'.size) (h : ∀ k, k < j - i → d[i + k]! = d'[i' + k]!) : seg d.toList i j = seg d'.toList i' j' := by
  apply List.ext_getElem?
  intro k
  rcases Nat.lt_or_ge k (j - i) with hk | hk
  · rw [seg_get hk, seg_get (by omega), list_at (by omega), list_at (by omega), h k hk]
  · rw [List.getElem?_eq_none (by rw [seg_length (by simpa using hj)]; exact hk), List.getElem?_eq_none (by rw [seg_length (by simpa using hj')]; omega)]
/-- A part of the row is l now, all else is as it was. -/
structure Part (a b : Nat) (d d' : Array α) (l : List α) : Prop where
  size : d'.size = d.size
  out : ∀ k, k < a ∨ b ≤ k → d'[k]! = d[k]!
  seg : seg d'.toList a b = l
theorem Part.far {a b : Nat} {d d' : Array α} {l : List α} (h : Part a b d d' l) {i j : Nat} (hij : j ≤ a ∨ b ≤ i) (hj : j ≤ d.size) : Stab.seg d'.toList i j = Stab.seg d.toList i j :=
  seg_ext rfl (by rw [h.size]; exact hj) hj fun k hk => h.out _ (by omega)
theorem Part.refl (a b : Nat) (d : Array α) : Part a b d d (Stab.seg d.toList a b) := ⟨rfl, fun _ _ => rfl, rfl⟩
theorem seg_one {d : Array α} {i : Nat} (h : i < d.size) : seg d.toList i (i + 1) = [d[i]!] := by
  apply List.ext_getElem?
  intro k
  rcases Nat.lt_or_ge k 1 with hk | hk
  · obtain rfl : k = 0 := by omega
    rw [seg_get (by omega)]
    simpa using list_at h
  · rw [List.getElem?_eq_none (by rw [seg_length (by simp; omega)]; omega), List.getElem?_eq_none (by simpa using hk)]
theorem Sorted.at_ {d : Array α} {i j : Nat} (hw : Weak less) (h : Sorted less (seg d.toList i j)) (hj : j ≤ d.size) {c e : Nat} (h1 : i ≤ c) (h2 : c ≤ e) (h3 : e < j) : less d[e]! d[c]! = false :=
  h.seg_le hw h1 h2 h3 (list_at (by omega)) (list_at (by omega))

/-! ### Insertion -/
theorem insInner_part (hw : Weak less) (a : Nat) : ∀ (j : Nat) (d : Array α), a ≤ j → j < d.size → Sorted less (seg d.toList a j) →
    Part a (j + 1) d (insInner less a j d) (merge less (seg d.toList a j) [d[j]!])
  | 0, d, h0, hj, _ => by
    obtain rfl : a = 0 := by omega
    unfold insInner
    have h := Part.refl 0 1 d
    rw [seg_one hj] at h
    rw [seg_nil (Nat.le_refl 0), merge_nil_left]
    exact h
  | j + 1, d, h0, hj, hs => by
    unfold insInner
    by_cases hc : (decide (j + 1 > a) && less d[j + 1]! d[j]!) = true
    · rw [if_pos hc]
      rw [Bool.and_eq_true, decide_eq_true_eq] at hc
      obtain ⟨haj, hlt⟩ := hc
      have hi : j < d.size := by omega
      have hat := swp_at d hj hi
      have hsz := size_swp' d (j + 1) j
      have e1 : seg (swp d (j + 1) j).toList a j = seg d.toList a j := seg_ext rfl (by omega) (by omega) fun k hk => by rw [hat, if_neg (by omega), if_neg (by omega)]
      have e2 : (swp d (j + 1) j)[j]! = d[j + 1]! := by rw [hat, if_pos rfl]
      have hp := insInner_part hw a j (swp d (j + 1) j) (by omega) (by omega) (by rw [e1]; exact hs.sub (Nat.le_refl _) (by omega) (by omega))
      rw [e1, e2] at hp
      refine ⟨by rw [hp.size, hsz], fun k hk => by rw [hp.out k (by omega), hat, if_neg (by omega), if_neg (by omega)], ?_⟩
      have e3 : seg d.toList a (j + 1) = seg d.toList a j ++ [d[j]!] := by rw [← seg_one hi, seg_app (by omega) (by omega)]
      have e4 : seg (insInner less a j (swp d (j + 1) j)).toList (j + 1) (j + 1 + 1) = [d[j]!] := by
        rw [hp.far (Or.inr (Nat.le_refl _)) (by omega), seg_one (by omega), hat, if_neg (by omega), if_pos rfl]
      rw [← seg_app (D := (insInner less a j (swp d (j + 1) j)).toList) (show a ≤ j + 1 by omega) (show j + 1 ≤ j + 1 + 1 by omega), hp.seg, e4, e3]
      have := merge_split (less := less) _ (seg d.toList a j) [d[j + 1]!] [d[j]!] [] rfl (fun _ _ _ h => by cases h) (fun y hy x hx => by
        rw [List.mem_singleton] at hy hx
        subst hy; subst hx; exact hlt)
      rw [List.append_nil, merge_nil_right] at this
      exact this.symm
    · rw [if_neg hc]
      have hno : ∀ x ∈ seg d.toList a (j + 1), less d[j + 1]! x = false := fun x hx => by
        obtain ⟨c, c1, c2, c3⟩ := mem_seg hx
        have haj : j + 1 > a := by omega
        rw [Bool.and_eq_true, decide_eq_true_eq, not_and, Bool.not_eq_true] at hc
        have hl := hc haj
        have := hs.at_ hw (by omega) c1 (show c ≤ j by omega) (by omega)
        rw [list_at (by omega)] at c3
        cases c3
        exact hw.nt _ _ _ this hl
      refine ⟨rfl, fun _ _ => rfl, ?_⟩
      have := merge_one_right (less := less) (y := d[j + 1]!) (p := seg d.toList a (j + 1)) (q := []) hno (fun _ h => by cases h)
      rw [List.append_nil] at this
      rw [this, ← seg_one hj, seg_app (by omega) (by omega)]
theorem insOuter_part (hw : Weak less) {d0 : Array α} {a b : Nat} : ∀ (n i : Nat) (d : Array α), b - i = n → a ≤ i → i ≤ b → b ≤ d0.size → Part a i d0 d (isort less (seg d0.toList a i)) →
    Part a b d0 (insOuter less a b i d) (isort less (seg d0.toList a b))
  | 0, i, d, hn, h1, h2, _, hp => by
    obtain rfl : i = b := by omega
    unfold insOuter
    rw [if_neg (by omega)]
    exact hp
  | n + 1, i, d, hn, h1, h2, hb, hp => by
    unfold insOuter
    rw [if_pos (by omega)]
    have hi : i < d.size := by rw [hp.size]; omega
    have hq := insInner_part hw a i d h1 hi (by rw [hp.seg]; exact isort_sorted hw _)
    refine insOuter_part hw n (i + 1) _ (by omega) (by omega) (by omega) hb ⟨by rw [hq.size, hp.size], fun k hk => by rw [hq.out k hk, hp.out k (by omega)], ?_⟩
    rw [hq.seg, hp.seg, hp.out i (by omega), ← seg_app (D := d0.toList) h1 (Nat.le_succ i), seg_one (by omega), isort_app hw]
    congr 1
    show _ = merge less [d0[i]!] []
    rw [merge_nil_right]
theorem insertion_part (hw : Weak less) (d : Array α) {a b : Nat} (hab : a ≤ b) (hb : b ≤ d.size) : Part a b d (insertionSort less d a b) (isort less (seg d.toList a b)) := by
  unfold insertionSort
  rcases Nat.lt_or_ge a b with h | h
  · refine insOuter_part hw _ (a + 1) d rfl (by omega) (by omega) hb ⟨rfl, fun _ _ => rfl, ?_⟩
    rw [seg_one (by omega)]
    show _ = merge less [d[a]!] []
    rw [merge_nil_right]
  · obtain rfl : a = b := by omega
    unfold insOuter
    rw [if_neg (by omega)]
    have h := Part.refl a a d
    rw [seg_nil (Nat.le_refl a)] at h ⊢
    exact h

/-! ### Runs of exchanges -/
/-- 'swapRange', after k steps. -/
def swapR (a b : Nat) : Nat → Array α → Array α
  | 0, d => d
  | k + 1, d => swp (swapR a b k d) (a + k) (b + k)
theorem swapR_at (a b : Nat) (d : Array α) : ∀ k, a + k ≤ b → b + k ≤ d.size → (swapR a b k d).size = d.size ∧ ∀ x, (swapR a b k d)[x]! = if a ≤ x ∧ x < a + k then d[x - a + b]! else if b ≤ x ∧ x < b + k then d[x - b + a]! else d[x]!
  | 0, h1, h2 => ⟨rfl, fun x => by rw [if_neg (by omega), if_neg (by omega)]; rfl⟩
  | k + 1, h1, h2 => by
    obtain ⟨hs, hat⟩ := swapR_at a b d k (by omega) (by omega)
    refine ⟨by unfold swapR; rw [size_swp', hs], fun x => ?_⟩
    unfold swapR
    rw [swp_at _ (by rw [hs]; omega) (by rw [hs]; omega)]
    by_cases e1 : x = b + k
    · subst e1
      rw [if_pos rfl, if_neg (by omega), if_pos (by omega), hat, if_neg (by omega), if_neg (by omega)]
      congr 1; omega
    · rw [if_neg e1]
      by_cases e2 : x = a + k
      · subst e2
        rw [if_pos rfl, if_pos (by omega), hat, if_neg (by omega), if_neg (by omega)]
        congr 1; omega
      · rw [if_neg e2, hat]
        by_cases c1 : a ≤ x ∧ x < a + k
        · rw [if_pos c1, if_pos (by omega)]
        · rw [if_neg c1, if_neg (by omega : ¬ (a ≤ x ∧ x < a + (k + 1)))]
          by_cases c2 : b ≤ x ∧ x < b + k
          · rw [if_pos c2, if_pos (by omega)]
          · rw [if_neg c2, if_neg (by omega)]
/-- Where a rotation takes the element of a place from. -/
def rotIx (a m b x : Nat) : Nat := if x < a ∨ b ≤ x then x else if x < a + (b - m) then x - a + m else x - (b - m)
/-- d' is d with its parts from a to m and from m to b exchanged. -/
def Rot (a m b : Nat) (d d' : Array α) : Prop := d'.size = d.size ∧ ∀ x, d'[x]! = d[rotIx a m b x]!
theorem rotIx_out {a m b x : Nat} (h : x < a ∨ b ≤ x) : rotIx a m b x = x := by unfold rotIx; rw [if_pos h]
theorem rotIx_lo {a m b x : Nat} (h1 : a ≤ x) (h2 : x < a + (b - m)) (h3 : x < b) : rotIx a m b x = x - a + m := by unfold rotIx; rw [if_neg (by omega), if_pos h2]
theorem rotIx_hi {a m b x : Nat} (h1 : a ≤ x) (h2 : a + (b - m) ≤ x) (h3 : x < b) : rotIx a m b x = x - (b - m) := by unfold rotIx; rw [if_neg (by omega), if_neg (by omega)]
theorem rot_left {a m b n : Nat} {d d1 : Array α} (h1 : a + n < m) (h2 : m + n = b) (hb : b ≤ d.size) (h : Rot (a + n) m b (swapR a m n d) d1) : Rot a m b d d1 := by
  obtain ⟨hs, hat⟩ := swapR_at a m d n (by omega) (by omega)
  refine ⟨by rw [h.1, hs], fun x => ?_⟩
  rw [h.2, hat]
  by_cases c1 : x < a ∨ b ≤ x
  · rw [rotIx_out (show x < a + n ∨ b ≤ x by omega), rotIx_out c1, if_neg (by omega), if_neg (by omega)]
  · by_cases c2 : x < a + n
    · rw [rotIx_out (Or.inl c2), rotIx_lo (a := a) (by omega) (by omega) (by omega), if_pos (by omega)]
    · by_cases c3 : x < a + n + (b - m)
      · rw [rotIx_lo (a := a + n) (by omega) c3 (by omega), rotIx_hi (a := a) (by omega) (by omega) (by omega), if_neg (by omega), if_pos (by omega)]
        congr 1; omega
      · rw [rotIx_hi (a := a + n) (by omega) (by omega) (by omega), rotIx_hi (a := a) (by omega) (by omega) (by omega), if_neg (by omega), if_neg (by omega)]
theorem rot_right {a m b n : Nat} {d d1 : Array α} (h1 : a + n = m) (h2 : m + n < b) (hb : b ≤ d.size) (h : Rot a m (b - n) (swapR a (b - n) n d) d1) : Rot a m b d d1 := by
  obtain ⟨hs, hat⟩ := swapR_at a (b - n) d n (by omega) (by omega)
  refine ⟨by rw [h.1, hs], fun x => ?_⟩
  rw [h.2, hat]
  by_cases c1 : x < a ∨ b ≤ x
  · rw [rotIx_out (show x < a ∨ b - n ≤ x by omega), rotIx_out c1, if_neg (by omega), if_neg (by omega)]
  · by_cases c2 : x < b - n
    · by_cases c3 : x < a + (b - n - m)
      · rw [rotIx_lo (b := b - n) (by omega) c3 (by omega), rotIx_lo (b := b) (by omega) (by omega) (by omega), if_neg (by omega), if_neg (by omega)]
      · rw [rotIx_hi (b := b - n) (by omega) (by omega) (by omega), rotIx_lo (b := b) (by omega) (by omega) (by omega), if_pos (by omega)]
        congr 1; omega
    · rw [rotIx_out (show x < a ∨ b - n ≤ x by omega), rotIx_hi (b := b) (by omega) (by omega) (by omega), if_neg (by omega), if_pos (by omega)]
      congr 1; omega
theorem rot_end {a m b n : Nat} {d : Array α} (h1 : a + n = m) (h2 : m + n = b) (hb : b ≤ d.size) : Rot a m b d (swapR a m n d) := by
  obtain ⟨hs, hat⟩ := swapR_at a m d n (by omega) (by omega)
  refine ⟨hs, fun x => ?_⟩
  rw [hat]
  by_cases c1 : x < a ∨ b ≤ x
  · rw [rotIx_out c1, if_neg (by omega), if_neg (by omega)]
  · by_cases c2 : x < a + (b - m)
    · rw [rotIx_lo (by omega) c2 (by omega), if_pos (by omega)]
    · rw [rotIx_hi (by omega) (by omega) (by omega), if_neg (by omega), if_pos (by omega)]
      congr 1; omega
/-- One element carried up from a to i, those between one place down: after k steps. -/
def upR (a : Nat) : Nat → Array α → Array α
  | 0, d => d
  | k + 1, d => swp (upR a k d) (a + k) (a + k + 1)
theorem upR_at (a : Nat) (d : Array α) : ∀ k, a + k < d.size → (upR a k d).size = d.size ∧ ∀ x, (upR a k d)[x]! = if a ≤ x ∧ x < a + k then d[x + 1]! else if x = a + k then d[a]! else d[x]!
  | 0, h => ⟨rfl, fun x => by
      rw [if_neg (by omega)]
      by_cases e : x = a + 0
      · rw [if_pos e, e]; rfl
      · rw [if_neg e]; rfl⟩
  | k + 1, h => by
    obtain ⟨hs, hat⟩ := upR_at a d k (by omega)
    refine ⟨by unfold upR; rw [size_swp', hs], fun x => ?_⟩
    unfold upR
    rw [swp_at _ (by rw [hs]; omega) (by rw [hs]; omega)]
    by_cases e1 : x = a + k + 1
    · subst e1
      rw [if_pos rfl, if_neg (by omega), if_pos (by omega), hat, if_neg (by omega), if_pos rfl]
    · rw [if_neg e1]
      by_cases e2 : x = a + k
      · subst e2
        rw [if_pos rfl, if_pos (by omega), hat, if_neg (by omega), if_neg (by omega)]
      · rw [if_neg e2, hat]
        by_cases c1 : a ≤ x ∧ x < a + k
        · rw [if_pos c1, if_pos (by omega)]
        · rw [if_neg c1, if_neg e2, if_neg (by omega : ¬ (a ≤ x ∧ x < a + (k + 1))), if_neg (by omega)]
/-- One element carried down from m by k places. -/
def downR (m : Nat) : Nat → Array α → Array α
  | 0, d => d
  | k + 1, d => swp (downR m k d) (m - k) (m - k - 1)
theorem downR_at (m : Nat) (d : Array α) (hm : m < d.size) : ∀ k, k ≤ m → (downR m k d).size = d.size ∧ ∀ x, (downR m k d)[x]! = if m - k < x ∧ x ≤ m then d[x - 1]! else if x = m - k then d[m]! else d[x]!
  | 0, h => ⟨rfl, fun x => by
      rw [if_neg (by omega)]
      by_cases e : x = m - 0
      · rw [if_pos e, e]; rfl
      · rw [if_neg e]; rfl⟩
  | k + 1, h => by
    obtain ⟨hs, hat⟩ := downR_at m d hm k (by omega)
    refine ⟨by unfold downR; rw [size_swp', hs], fun x => ?_⟩
    unfold downR
    rw [swp_at _ (by rw [hs]; omega) (by rw [hs]; omega)]
    by_cases e1 : x = m - k - 1
    · subst e1
      rw [if_pos rfl, if_neg (by omega), if_pos (by omega), hat, if_neg (by omega), if_pos rfl]
    · rw [if_neg e1]
      by_cases e2 : x = m - k
      · subst e2
        rw [if_pos rfl, if_pos (by omega), hat, if_neg (by omega), if_neg (by omega)]
      · rw [if_neg e2, hat]
        by_cases c1 : m - k < x ∧ x ≤ m
        · rw [if_pos c1, if_pos (by omega)]
        · rw [if_neg c1, if_neg e2, if_neg (by omega : ¬ (m - (k + 1) < x ∧ x ≤ m)), if_neg (by omega)]

/-! ### The symmetric merging -/
theorem mem_seg_at {d : Array α} {i j : Nat} (hj : j ≤ d.size) {x : α} (h : x ∈ seg d.toList i j) : ∃ c, i ≤ c ∧ c < j ∧ d[c]! = x := by
  obtain ⟨c, c1, c2, c3⟩ := mem_seg h
  rw [list_at (by omega)] at c3
  exact ⟨c, c1, c2, Option.some.inj c3⟩
theorem sym_one_left {d : Array α} {a b i : Nat} (h1 : a + 1 ≤ i) (h2 : i ≤ b) (hb : b ≤ d.size) (lo : ∀ k, a + 1 ≤ k → k < i → less d[k]! d[a]! = true) (hi : ∀ k, i ≤ k → k < b → less d[k]! d[a]! = false) :
    Part a b d (upR a (i - 1 - a) d) (merge less (seg d.toList a (a + 1)) (seg d.toList (a + 1) b)) := by
  obtain ⟨hs, hat⟩ := upR_at a d (i - 1 - a) (by omega)
  refine ⟨hs, fun k hk => by rw [hat, if_neg (by omega), if_neg (by omega)], ?_⟩
  rw [seg_one (by omega), ← seg_app (D := d.toList) h1 h2, merge_one_left (fun y hy => ?_) (fun y hy => ?_)]
  · rw [← seg_app (D := (upR a (i - 1 - a) d).toList) (show a ≤ i - 1 by omega) (show i - 1 ≤ b by omega), ← seg_app (D := (upR a (i - 1 - a) d).toList) (show i - 1 ≤ i by omega) h2]
    have e1 : seg (upR a (i - 1 - a) d).toList a (i - 1) = seg d.toList (a + 1) i := seg_ext (by omega) (by omega) (by omega) fun k hk => by rw [hat, if_pos (by omega)]; congr 1; omega
    have e2 : seg (upR a (i - 1 - a) d).toList (i - 1) i = [d[a]!] := by
      have := seg_one (d := upR a (i - 1 - a) d) (i := i - 1) (by omega)
      rw [show i - 1 + 1 = i by omega] at this
      rw [this, hat, if_neg (by omega), if_pos (by omega)]
    have e3 : seg (upR a (i - 1 - a) d).toList i b = seg d.toList i b := seg_ext rfl (by omega) hb fun k hk => by rw [hat, if_neg (by omega), if_neg (by omega)]
    rw [e1, e2, e3]; rfl
  · obtain ⟨c, c1, c2, rfl⟩ := mem_seg_at (by omega) hy
    exact lo c c1 c2
  · obtain ⟨c, c1, c2, rfl⟩ := mem_seg_at hb hy
    exact hi c c1 c2
theorem sym_one_right {d : Array α} {a m i : Nat} (h1 : a ≤ i) (h2 : i ≤ m) (hb : m + 1 ≤ d.size) (lo : ∀ k, a ≤ k → k < i → less d[m]! d[k]! = false) (hi : ∀ k, i ≤ k → k < m → less d[m]! d[k]! = true) :
    Part a (m + 1) d (downR m (m - i) d) (merge less (seg d.toList a m) (seg d.toList m (m + 1))) := by
  obtain ⟨hs, hat⟩ := downR_at m d (by omega) (m - i) (by omega)
  refine ⟨hs, fun k hk => by rw [hat, if_neg (by omega), if_neg (by omega)], ?_⟩
  rw [seg_one (by omega), ← seg_app (D := d.toList) h1 h2, merge_one_right (fun y hy => ?_) (fun y hy => ?_)]
  · rw [← seg_app (D := (downR m (m - i) d).toList) h1 (show i ≤ m + 1 by omega), ← seg_app (D := (downR m (m - i) d).toList) (show i ≤ i + 1 by omega) (show i + 1 ≤ m + 1 by omega)]
    have e1 : seg (downR m (m - i) d).toList a i = seg d.toList a i := seg_ext (by omega) (by omega) (by omega) fun k hk => by rw [hat, if_neg (by omega), if_neg (by omega)]
    have e2 : seg (downR m (m - i) d).toList i (i + 1) = [d[m]!] := by
      rw [seg_one (by omega), hat, if_neg (by omega), if_pos (by omega)]
    have e3 : seg (downR m (m - i) d).toList (i + 1) (m + 1) = seg d.toList i m := seg_ext (by omega) (by omega) (by omega) fun k hk => by rw [hat, if_pos (by omega)]; congr 1; omega
    rw [e1, e2, e3]; rfl
  · obtain ⟨c, c1, c2, rfl⟩ := mem_seg_at (by omega) hy
    exact lo c c1 c2
  · obtain ⟨c, c1, c2, rfl⟩ := mem_seg_at (by omega) hy
    exact hi c c1 c2
theorem rot_same {s m e : Nat} {d : Array α} (h : s = m ∨ e = m) (h1 : s ≤ m) (h2 : m ≤ e) : Rot s m e d d := by
  refine ⟨rfl, fun x => ?_⟩
  unfold rotIx
  by_cases c1 : x < s ∨ e ≤ x
  · rw [if_pos c1]
  · rw [if_neg c1]
    by_cases c2 : x < s + (e - m)
    · rw [if_pos c2]; congr 1; omega
    · rw [if_neg c2]; congr 1; omega
theorem part_left_nil {a s mid : Nat} {d : Array α} (h1 : a ≤ s) (h2 : s ≤ mid) (h : a = s ∨ s = mid) : Part a mid d d (merge less (seg d.toList a s) (seg d.toList s mid)) := by
  have := Part.refl a mid d
  rcases h with rfl | rfl
  · rw [seg_nil (Nat.le_refl a), merge_nil_left]; exact this
  · rw [seg_nil (Nat.le_refl s), merge_nil_right]; exact this
/-- The rotation and the two smaller mergings together. -/
theorem sym_whole (hw : Weak less) {d d1 d2 d3 : Array α} {a m b s e mid : Nat} (hb : b ≤ d.size) (h1 : a ≤ s) (h2 : s ≤ m) (h3 : m ≤ e) (h4 : e ≤ b) (hmid : mid + m = s + e)
    (hL : Sorted less (seg d.toList a m)) (hR : Sorted less (seg d.toList m b))
    (lo : s = a ∨ e = b ∨ less d[e]! d[s - 1]! = false) (hi : s = m ∨ e = m ∨ less d[e - 1]! d[s]! = true)
    (hr : Rot s m e d d1) (hp : Part a mid d1 d2 (merge less (seg d1.toList a s) (seg d1.toList s mid))) (hq : Part mid b d2 d3 (merge less (seg d2.toList mid e) (seg d2.toList e b))) :
    Part a b d d3 (merge less (seg d.toList a m) (seg d.toList m b)) := by
  have z1 := hr.1
  have z2 := hp.size
  have z3 := hq.size
  have r1 : seg d1.toList a s = seg d.toList a s := seg_ext rfl (by omega) (by omega) fun k hk => by rw [hr.2]; unfold rotIx; rw [if_pos (by omega)]
  have r2 : seg d1.toList s mid = seg d.toList m e := seg_ext (by omega) (by omega) (by omega) fun k hk => by rw [hr.2]; unfold rotIx; rw [if_neg (by omega), if_pos (by omega)]; congr 1; omega
  have r3 : seg d1.toList mid e = seg d.toList s m := seg_ext (by omega) (by omega) (by omega) fun k hk => by rw [hr.2]; unfold rotIx; rw [if_neg (by omega), if_neg (by omega)]; congr 1; omega
  have r4 : seg d1.toList e b = seg d.toList e b := seg_ext rfl (by omega) (by omega) fun k hk => by rw [hr.2]; unfold rotIx; rw [if_pos (by omega)]
  refine ⟨by omega, fun k hk => ?_, ?_⟩
  · rw [hq.out k (by omega), hp.out k (by omega), hr.2]
    unfold rotIx
    rw [if_pos (by omega)]
  · rw [← seg_app (D := d3.toList) (show a ≤ mid by omega) (show mid ≤ b by omega), hq.seg, hq.far (Or.inl (Nat.le_refl mid)) (by omega), hp.seg, hp.far (i := mid) (j := e) (Or.inr (Nat.le_refl _)) (by omega), hp.far (i := e) (j := b) (Or.inr (by omega)) (by omega), r1, r2, r3, r4]
    refine (sym_cut hw (by simpa using hb) h1 h2 h3 h4 hL hR ?_ ?_).symm
    · rcases lo with lo | lo | lo
      · exact .inl lo
      · exact .inr (.inl lo)
      · by_cases c1 : s = a
        · exact .inl c1
        · by_cases c2 : e = b
          · exact .inr (.inl c2)
          · refine .inr (.inr fun x y hx hy => ?_)
            rw [list_at (by omega)] at hx hy
            cases hx; cases hy
            exact lo
    · rcases hi with hi | hi | hi
      · exact .inl hi
      · exact .inr (.inl hi)
      · by_cases c1 : s = m
        · exact .inl c1
        · by_cases c2 : e = m
          · exact .inr (.inl c2)
          · refine .inr (.inr fun x y hx hy => ?_)
            rw [list_at (by omega)] at hx hy
            cases hx; cases hy
            exact hi
/-- What the smaller mergings ask. -/
theorem sym_sorted {d d1 : Array α} {a m b s e mid : Nat} (hb : b ≤ d.size) (h1 : a ≤ s) (h2 : s ≤ m) (h3 : m ≤ e) (h4 : e ≤ b) (hmid : mid + m = s + e) (hL : Sorted less (seg d.toList a m)) (hR : Sorted less (seg d.toList m b)) (hr : Rot s m e d d1) :
    Sorted less (seg d1.toList a s) ∧ Sorted less (seg d1.toList s mid) ∧ Sorted less (seg d1.toList mid e) ∧ Sorted less (seg d1.toList e b) := by
  have z1 := hr.1
  have r1 : seg d1.toList a s = seg d.toList a s := seg_ext rfl (by omega) (by omega) fun k hk => by rw [hr.2]; unfold rotIx; rw [if_pos (by omega)]
  have r2 : seg d1.toList s mid = seg d.toList m e := seg_ext (by omega) (by omega) (by omega) fun k hk => by rw [hr.2]; unfold rotIx; rw [if_neg (by omega), if_pos (by omega)]; congr 1; omega
  have r3 : seg d1.toList mid e = seg d.toList s m := seg_ext (by omega) (by omega) (by omega) fun k hk => by rw [hr.2]; unfold rotIx; rw [if_neg (by omega), if_neg (by omega)]; congr 1; omega
  have r4 : seg d1.toList e b = seg d.toList e b := seg_ext rfl (by omega) (by omega) fun k hk => by rw [hr.2]; unfold rotIx; rw [if_pos (by omega)]
  rw [r1, r2, r3, r4]
  exact ⟨hL.sub (Nat.le_refl _) h1 h2, hR.sub (Nat.le_refl _) h3 h4, hL.sub h1 h2 (Nat.le_refl _), hR.sub h3 h4 (Nat.le_refl _)⟩

/-! ### The binary searches -/
theorem bs1_lo (hw : Weak less) {d : Array α} {m b h : Nat} {x : α} (hR : Sorted less (seg d.toList m b)) (hb : b ≤ d.size) (h2 : h < b) (ht : less d[h]! x = true) : ∀ k, m ≤ k → k < h + 1 → less d[k]! x = true := fun k k1 k2 => by
  cases hk : less d[k]! x with
  | true => rfl
  | false =>
    have := hw.nt x d[k]! d[h]! hk (hR.at_ hw hb k1 (show k ≤ h by omega) h2)
    rw [ht] at this; cases this
theorem bs1_hi (hw : Weak less) {d : Array α} {m b h : Nat} {x : α} (hR : Sorted less (seg d.toList m b)) (hb : b ≤ d.size) (h1 : m ≤ h) (ht : less d[h]! x = false) : ∀ k, h ≤ k → k < b → less d[k]! x = false := fun k k1 k2 =>
  hw.nt x d[h]! d[k]! ht (hR.at_ hw hb h1 k1 k2)
theorem bs2_lo (hw : Weak less) {d : Array α} {a m h : Nat} {x : α} (hL : Sorted less (seg d.toList a m)) (hb : m ≤ d.size) (h2 : h < m) (ht : less x d[h]! = false) : ∀ k, a ≤ k → k < h + 1 → less x d[k]! = false := fun k k1 k2 =>
  hw.nt d[k]! d[h]! x (hL.at_ hw hb k1 (show k ≤ h by omega) h2) ht
theorem bs2_hi (hw : Weak less) {d : Array α} {a m h : Nat} {x : α} (hL : Sorted less (seg d.toList a m)) (hb : m ≤ d.size) (h1 : a ≤ h) (ht : less x d[h]! = true) : ∀ k, h ≤ k → k < m → less x d[k]! = true := fun k k1 k2 => by
  cases hk : less x d[k]! with
  | true => rfl
  | false =>
    have := hw.nt d[h]! d[k]! x (hL.at_ hw hb h1 k1 k2) hk
    rw [ht] at this; cases this

/-! ### Blocks -/
theorem Sor.merge (hw : Weak less) {d d1 d2 : Array α} {i j k : Nat} (h1 : i ≤ j) (h2 : j ≤ k) (a : Sor less d d1 i j) (b : Sor less d d1 j k) (hp : Part i k d1 d2 (Stab.merge less (seg d1.toList i j) (seg d1.toList j k))) : Sor less d d2 i k := by
  unfold Sor at *
  rw [hp.seg, a, b, ← isort_app hw, seg_app h1 h2]
theorem Sor.far {d d1 d2 : Array α} {i j a b : Nat} {l : List α} (h : Sor less d d1 i j) (hp : Part a b d1 d2 l) (hij : j ≤ a ∨ b ≤ i) (hj : j ≤ d1.size) : Sor less d d2 i j := by
  unfold Sor at *
  rw [hp.far hij hj, h]
theorem Sor.fresh {d d1 d2 : Array α} {i j : Nat} {l : List α} (hs : d1.size = d.size) (hj : j ≤ d.size) (he : ∀ k, i ≤ k → d1[k]! = d[k]!) (hp : Part i j d1 d2 l) (hl : l = isort less (seg d1.toList i j)) : Sor less d d2 i j := by
  unfold Sor
  rw [hp.seg, hl]
  congr 1
  exact seg_ext rfl (by omega) hj fun k _ => he _ (by omega)
/-- Blocks of size B at multiples of B, each sorted. -/
def Blocks (less : α → α → Bool) (d d' : Array α) (B n : Nat) : Prop := ∀ i, B ∣ i → i < n → Sor less d d' i (min n (i + B))
/-- Midway in a round of mergings: ahead of a the blocks of size 2B, from a on those of size B. -/
def Mid (less : α → α → Bool) (d d' : Array α) (B n a : Nat) : Prop := (2 * B) ∣ a ∧ (∀ i, (2 * B) ∣ i → i + 2 * B ≤ a → Sor less d d' i (i + 2 * B)) ∧ ∀ i, B ∣ i → a ≤ i → i < n → Sor less d d' i (min n (i + B))
theorem dvd_lt {B i a : Nat} (h1 : B ∣ i) (h2 : B ∣ a) (h : i < a) : i + B ≤ a := by
  obtain ⟨x, rfl⟩ := h1
  obtain ⟨y, rfl⟩ := h2
  have : x < y := by
    rcases Nat.lt_or_ge x y with h' | h'
    · exact h'
    · exact absurd (Nat.mul_le_mul_left B h') (by omega)
  have := Nat.mul_le_mul_left B (show x + 1 ≤ y from this)
  rw [Nat.mul_add, Nat.mul_one] at this
  exact this
/-- The first round: blocks of size B ahead of a, from a on as it was. -/
def Ins (less : α → α → Bool) (d dk : Array α) (B a : Nat) : Prop := B ∣ a ∧ (∀ i, B ∣ i → i + B ≤ a → Sor less d dk i (i + B)) ∧ ∀ k, a ≤ k → dk[k]! = d[k]!
theorem Ins.start (d : Array α) {B : Nat} (hB : 0 < B) : Ins less d d B 0 := ⟨⟨0, rfl⟩, fun i _ h => by omega, fun _ _ => rfl⟩
theorem Ins.step {d dk d2 : Array α} {B a b : Nat} (h : Ins less d dk B a) (hb : b = a + B) (hz : dk.size = d.size) (hbn : b ≤ d.size) (hp : Part a b dk d2 (isort less (seg dk.toList a b))) : Ins less d d2 B b := by
  obtain ⟨h1, h2, h3⟩ := h
  subst hb
  refine ⟨Nat.dvd_add h1 (Nat.dvd_refl _), fun i hd hi => ?_, fun k hk => by rw [hp.out k (Or.inr hk)]; exact h3 k (by omega)⟩
  by_cases e : i = a
  · subst e
    exact Sor.fresh hz hbn (fun k hk => h3 k hk) hp rfl
  · by_cases e2 : i + B ≤ a
    · exact (h2 i hd e2).far hp (Or.inl e2) (by omega)
    · rcases Nat.lt_or_ge i a with h' | h'
      · exact absurd (dvd_lt hd h1 h') e2
      · have := dvd_lt h1 hd (by omega)
        omega
theorem Ins.done {d dk d2 : Array α} {B a : Nat} (h : Ins less d dk B a) (hz : dk.size = d.size) (han : a ≤ d.size) (hbn : d.size < a + B) (hp : Part a d.size dk d2 (isort less (seg dk.toList a d.size))) : Blocks less d d2 B d.size := by
  obtain ⟨h1, h2, h3⟩ := h
  intro i hd hi
  by_cases e : i = a
  · subst e
    rw [show min d.size (i + B) = d.size by omega]
    exact Sor.fresh hz (Nat.le_refl _) (fun k hk => h3 k hk) hp rfl
  · rcases Nat.lt_or_ge i a with h' | h'
    · have := dvd_lt hd h1 h'
      rw [show min d.size (i + B) = i + B by omega]
      exact (h2 i hd this).far hp (Or.inl this) (by omega)
    · have := dvd_lt h1 hd (by omega)
      omega
omit [Inhabited α] in
theorem Mid.start {d d' : Array α} {B n : Nat} (h : Blocks less d d' B n) : Mid less d d' B n 0 :=
  ⟨⟨0, rfl⟩, fun i _ hi => by
    by_cases hB : B = 0
    · subst hB
      obtain rfl : i = 0 := by omega
      unfold Sor
      rw [seg_nil (by omega), seg_nil (by omega)]; rfl
    · omega, fun i hd _ hi => h i hd hi⟩
theorem two_dvd {B a : Nat} (h : (2 * B) ∣ a) : B ∣ a := by
  obtain ⟨x, rfl⟩ := h
  exact ⟨2 * x, by rw [Nat.mul_comm 2 B, Nat.mul_assoc]⟩
omit [Inhabited α] in
theorem Mid.ask (hw : Weak less) {d d' : Array α} {B n a m b : Nat} (h : Mid less d d' B n a) (hm : m = a + B) (hmn : m < n) (hb : b = min n (a + 2 * B)) : Sorted less (seg d'.toList a m) ∧ Sorted less (seg d'.toList m b) := by
  obtain ⟨h1, _, h3⟩ := h
  subst hm
  have e1 := h3 a (two_dvd h1) (Nat.le_refl _) (by omega)
  have e2 := h3 (a + B) (Nat.dvd_add (two_dvd h1) (Nat.dvd_refl B)) (by omega) hmn
  rw [show min n (a + B) = a + B by omega] at e1
  rw [show min n (a + B + B) = b by omega] at e2
  exact ⟨e1.sorted hw, e2.sorted hw⟩
theorem Mid.merged (hw : Weak less) {d d' d2 : Array α} {B n a m b : Nat} (h : Mid less d d' B n a) (hz : d'.size = n) (hm : m = a + B) (hmn : m < n) (hb : b = min n (a + 2 * B)) (hp : Part a b d' d2 (Stab.merge less (seg d'.toList a m) (seg d'.toList m b))) :
    Sor less d d2 a b ∧ (∀ i, (2 * B) ∣ i → i + 2 * B ≤ a → Sor less d d2 i (i + 2 * B)) ∧ ∀ i, B ∣ i → a + 2 * B ≤ i → i < n → Sor less d d2 i (min n (i + B)) := by
  obtain ⟨h1, h2, h3⟩ := h
  subst hm
  have e1 := h3 a (two_dvd h1) (Nat.le_refl _) (by omega)
  have e2 := h3 (a + B) (Nat.dvd_add (two_dvd h1) (Nat.dvd_refl B)) (by omega) hmn
  rw [show min n (a + B) = a + B by omega] at e1
  rw [show min n (a + B + B) = b by omega] at e2
  exact ⟨Sor.merge hw (by omega) (by omega) e1 e2 hp, fun i hd hi => (h2 i hd hi).far hp (Or.inl hi) (by omega), fun i hd hi hin => (h3 i hd (by omega) hin).far hp (Or.inr (by omega)) (by omega)⟩
theorem Mid.step (hw : Weak less) {d d' d2 : Array α} {B n a m b : Nat} (h : Mid less d d' B n a) (hB : 0 < B) (hz : d'.size = n) (hm : m = a + B) (hb : b = a + 2 * B) (hbn : b ≤ n) (hp : Part a b d' d2 (Stab.merge less (seg d'.toList a m) (seg d'.toList m b))) : Mid less d d2 B n b := by
  obtain ⟨g1, g2, g3⟩ := h.merged hw hz hm (by omega) (by omega) hp
  subst hb
  refine ⟨Nat.dvd_add h.1 (Nat.dvd_refl _), fun i hd hi => ?_, g3⟩
  by_cases e : i = a
  · subst e; exact g1
  · exact g2 i hd (dvd_lt hd h.1 (by omega))
/-- Behind the last merging. -/
theorem Mid.last (hw : Weak less) {d d' d2 : Array α} {B n a m : Nat} (h : Mid less d d' B n a) (hz : d'.size = n) (hm : m = a + B) (hmn : m < n) (hbn : n < a + 2 * B) (hp : Part a n d' d2 (Stab.merge less (seg d'.toList a m) (seg d'.toList m n))) : Blocks less d d2 (2 * B) n := by
  obtain ⟨g1, g2, _⟩ := h.merged hw hz hm hmn (b := n) (by omega) hp
  intro i hd hi
  by_cases e : i = a
  · subst e
    rw [show min n (i + 2 * B) = n by omega]; exact g1
  · rcases Nat.lt_or_ge i a with h' | h'
    · have := dvd_lt hd h.1 h'
      rw [show min n (i + 2 * B) = i + 2 * B by omega]
      exact g2 i hd this
    · have := dvd_lt h.1 hd (by omega)
      omega
omit [Inhabited α] in
theorem Mid.none {d d' : Array α} {B n a m : Nat} (h : Mid less d d' B n a) (han : a ≤ n) (hB : 0 < B) (hm : m = a + B) (hmn : n ≤ m) : Blocks less d d' (2 * B) n := by
  intro i hd hi
  by_cases e : i = a
  · subst e
    have e1 := h.2.2 i (two_dvd hd) (Nat.le_refl _) hi
    rw [show min n (i + B) = n by omega] at e1
    rw [show min n (i + 2 * B) = n by omega]; exact e1
  · rcases Nat.lt_or_ge i a with h' | h'
    · have := dvd_lt hd h.1 h'
      rcases Nat.lt_or_ge n (i + 2 * B) with h'' | h''
      · omega
      · rw [show min n (i + 2 * B) = i + 2 * B by omega]
        exact h.2.1 i hd this
    · have := dvd_lt h.1 hd (by omega)
      omega
omit [Inhabited α] in
theorem Blocks.whole {d d' : Array α} {B n : Nat} (h : Blocks less d d' B n) (h1 : d'.size = n) (h2 : d.size = n) (hB : n ≤ B) : d'.toList = isort less d.toList := by
  rcases Nat.eq_zero_or_pos n with h0 | h0
  · subst h0
    have e1 : d'.toList = [] := List.eq_nil_of_length_eq_zero (by simpa using h1)
    have e2 : d.toList = [] := List.eq_nil_of_length_eq_zero (by simpa using h2)
    rw [e1, e2]; rfl
  · have := h 0 ⟨0, rfl⟩ h0
    rw [show min n (0 + B) = n by omega] at this
    unfold Sor seg at this
    simpa [List.take_of_length_le, h1, h2] using this
end
end Go.Proofs.YtdljlpogljjldaaDoor.Stab
