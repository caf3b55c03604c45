/- A list that is rewritten element by element, laid out flat. -/
import Derived.Test.YtnpgdeioaehahaaDoorBase
namespace Go.Proofs.YtnpgdeioaehahaaDoor
section
variable {α : Type} {c : α → List Value} {kk : Nat}
theorem flat_get (hc : ∀ x, (c x).length = kk) : ∀ (l : List α) (i : Nat) (x : α), l[i]? = some x → ∀ j, j < kk → (l.flatMap c)[i * kk + j]? = (c x)[j]?
  | [], _, _, h, _, _ => by simp at h
  | y :: l, 0, x, h, j, hj => by
    simp at h; subst h
    rw [List.flatMap_cons, Nat.zero_mul, Nat.zero_add, List.getElem?_append_left (by rw [hc]; exact hj)]
  | y :: l, i + 1, x, h, j, hj => by
    rw [List.flatMap_cons, List.getElem?_append_right (by rw [hc, Nat.succ_mul]; omega), ← flat_get hc l i x (by simpa using h) j hj]
    congr 1
    rw [hc, Nat.succ_mul]; omega
theorem flat_set (hc : ∀ x, (c x).length = kk) : ∀ (l : List α) (i : Nat) (x y : α), l[i]? = some x → ∀ j u, j < kk → c y = (c x).set j u → (l.flatMap c).set (i * kk + j) u = (l.set i y).flatMap c
  | [], _, _, _, h, _, _, _, _ => by simp at h
  | z :: l, 0, x, y, h, j, u, hj, hy => by
    simp at h; subst h
    rw [List.flatMap_cons, List.set_cons_zero, List.flatMap_cons, Nat.zero_mul, Nat.zero_add, List.set_append, if_pos (by rw [hc]; exact hj), hy]
  | z :: l, i + 1, x, y, h, j, u, hj, hy => by
    rw [List.flatMap_cons, List.set_cons_succ, List.flatMap_cons, List.set_append, if_neg (by rw [hc, Nat.succ_mul]; omega), ← flat_set hc l i x y (by simpa using h) j u hj hy]
    congr 2
    rw [hc, Nat.succ_mul]; omega
/-- The first k elements are turned. -/
def part (g : α → α) (l : List α) (k : Nat) : List α := (l.take k).map g ++ l.drop k
theorem part_len (g : α → α) (l : List α) (k : Nat) : (part g l k).length = l.length := by simp [part]; omega
theorem part_get (g : α → α) (l : List α) (k i : Nat) (h : i < l.length) : (part g l k)[i]? = some (if i < k then g l[i] else l[i]) := by
  unfold part
  by_cases hi : i < k
  · rw [if_pos hi, List.getElem?_append_left (by simp; omega)]
    simp [hi, h]
  · rw [if_neg hi, List.getElem?_append_right (by simp; omega)]
    simp only [List.length_map, List.length_take, List.getElem?_drop]
    rw [show k + (i - min k l.length) = i by omega]
    exact List.getElem?_eq_getElem h
theorem part_succ (g : α → α) (l : List α) (k : Nat) (h : k < l.length) : part g l (k + 1) = (part g l k).set k (g l[k]) := by
  apply List.ext_getElem?
  intro i
  rcases Nat.lt_or_ge i l.length with hi | hi
  · rw [part_get g l _ i hi, List.getElem?_set, part_len]
    by_cases e : k = i
    · subst e; simp [h]
    · rw [if_neg e, part_get g l _ i hi]
      by_cases h2 : i < k
      · rw [if_pos h2, if_pos (by omega)]
      · rw [if_neg h2, if_neg (by omega)]
  · rw [List.getElem?_eq_none (by rw [part_len]; exact hi), List.getElem?_eq_none (by rw [List.length_set, part_len]; exact hi)]
theorem part_all (g : α → α) (l : List α) (k : Nat) (h : l.length ≤ k) : part g l k = l.map g := by
  unfold part; rw [List.take_of_length_le h, List.drop_eq_nil_of_le h, List.append_nil]
theorem part_zero (g : α → α) (l : List α) : part g l 0 = l := by simp [part]
theorem part_same (g : α → α) (l : List α) (k : Nat) (h : k < l.length) (hg : g l[k] = l[k]) : part g l (k + 1) = part g l k := by
  rw [part_succ g l k h, hg]
  apply List.ext_getElem?
  intro i
  rw [List.getElem?_set]
  by_cases e : k = i
  · subst e; rw [if_pos rfl, if_pos (by rw [part_len]; exact h), part_get g l k k h, if_neg (by omega)]
  · rw [if_neg e]
end

end Go.Proofs.YtnpgdeioaehahaaDoor
