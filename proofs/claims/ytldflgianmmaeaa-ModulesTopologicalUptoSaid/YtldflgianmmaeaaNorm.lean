/- Sorted lists of strings without repetitions, in plain Lean: what Sort and Compact make of a list depends on its members alone. -/
import Derived.Lib.SlicesCompact
import Derived.Sort.KeysCollected
namespace Go.Proofs.Ytldflgianmmaeaa
open Go

abbrev T := List UInt8

theorem leB_trans (a b c : T) (h1 : decide (a ≤ b) = true) (h2 : decide (b ≤ c) = true) : decide (a ≤ c) = true := by
  simp only [decide_eq_true_eq] at *; exact List.le_trans h1 h2
theorem leB_total (a b : T) : (decide (a ≤ b) || decide (b ≤ a)) = true := by
  simp only [Bool.or_eq_true, decide_eq_true_eq]; exact List.le_total a b

/-- Sorted, each once. -/
def norm (l : List T) : List T := Lib.compact (l.mergeSort fun x y => decide (x ≤ y))

theorem lt_of_le_ne {a b : T} (h : a ≤ b) (hn : a ≠ b) : a < b := by
  refine Classical.byContradiction fun h1 => hn (List.le_antisymm h ?_)
  exact h1

theorem compact_inv (d : Array T) (hs : ∀ i j : Nat, i ≤ j → j < d.size → d[i]! ≤ d[j]!) : ∀ m, m ≤ d.size →
    (∀ x, x ∈ Lib.compactUpTo d m ↔ ∃ j, j < m ∧ d[j]! = x) ∧ (Lib.compactUpTo d m).Pairwise (· < ·)
  | 0, _ => ⟨fun x => by simp [Lib.compactUpTo], by simp [Lib.compactUpTo]⟩
  | m + 1, hm => by
    obtain ⟨ih1, ih2⟩ := compact_inv d hs m (by omega)
    rw [Lib.compactUpTo_succ]
    cases hk : Lib.keeps d m with
    | true =>
      simp only [if_true]
      refine ⟨fun x => ?_, List.pairwise_append.2 ⟨ih2, by simp, fun a ha b hb => ?_⟩⟩
      · rw [List.mem_append, ih1, List.mem_singleton]
        constructor
        · rintro (⟨j, hj, e⟩ | e)
          · exact ⟨j, by omega, e⟩
          · exact ⟨m, by omega, e.symm⟩
        · rintro ⟨j, hj, e⟩
          rcases Nat.lt_or_ge j m with h | h
          · exact .inl ⟨j, h, e⟩
          · have : j = m := by omega
            subst this; exact .inr e.symm
      · obtain ⟨j, hj, rfl⟩ := (ih1 a).1 ha
        rw [List.mem_singleton] at hb
        subst hb
        have h1 := hs j (m - 1) (by omega) (by omega)
        have h2 := hs (m - 1) m (by omega) (by omega)
        have hne : d[m]! ≠ d[m - 1]! := by
          simp only [Lib.keeps, decide_eq_true_eq] at hk
          rcases hk with hk | hk
          · omega
          · exact hk
        exact lt_of_le_ne (List.le_trans h1 h2) fun e => hne (List.le_antisymm (by rw [← e]; exact h1) h2)
    | false =>
      simp only [Bool.false_eq_true, if_false, List.append_nil]
      refine ⟨fun x => ?_, ih2⟩
      rw [ih1]
      constructor
      · rintro ⟨j, hj, e⟩; exact ⟨j, by omega, e⟩
      · rintro ⟨j, hj, e⟩
        rcases Nat.lt_or_ge j m with h | h
        · exact ⟨j, h, e⟩
        · have : j = m := by omega
          subst this
          simp only [Lib.keeps, decide_eq_false_iff_not] at hk
          have hj0 : j ≠ 0 := fun h0 => hk (.inl h0)
          have he : d[j]! = d[j - 1]! := Classical.byContradiction fun h => hk (.inr h)
          exact ⟨j - 1, by omega, by rw [← e, he]⟩

theorem norm_both (l : List T) : (∀ x, x ∈ norm l ↔ x ∈ l) ∧ (norm l).Pairwise (· < ·) := by
  have hp : (l.mergeSort fun x y => decide (x ≤ y)).Pairwise fun x y => decide (x ≤ y) = true := List.pairwise_mergeSort leB_trans leB_total l
  have hmem : ∀ x, x ∈ (l.mergeSort fun x y => decide (x ≤ y)) ↔ x ∈ l := fun x => (List.mergeSort_perm l _).mem_iff
  obtain ⟨z, hz⟩ : ∃ z, (l.mergeSort fun x y => decide (x ≤ y)) = z := ⟨_, rfl⟩
  rw [hz] at hp hmem
  have hinv := compact_inv z.toArray (fun i j hij hj => by
    have hj' : j < z.length := by simpa using hj
    have hi' : i < z.length := by omega
    rw [getElem!_pos z.toArray i (by simpa using hi'), getElem!_pos z.toArray j (by simpa using hj')]
    simp only [List.getElem_toArray]
    rcases Nat.lt_or_ge i j with h | h
    · exact of_decide_eq_true (List.pairwise_iff_getElem.1 hp i j hi' hj' h)
    · have : i = j := by omega
      subst this; exact List.le_refl _) z.length (by simp)
  unfold norm Lib.compact
  rw [hz]
  refine ⟨fun x => ?_, hinv.2⟩
  rw [hinv.1, ← hmem]
  constructor
  · rintro ⟨j, hj, rfl⟩
    rw [getElem!_pos z.toArray j (by simpa using hj)]
    simp
  · intro hx
    obtain ⟨j, hj, e⟩ := List.mem_iff_getElem.1 hx
    exact ⟨j, hj, by rw [getElem!_pos z.toArray j (by simpa using hj)]; simpa using e⟩

theorem mem_norm {l : List T} {x : T} : x ∈ norm l ↔ x ∈ l := (norm_both l).1 x
theorem norm_lt (l : List T) : (norm l).Pairwise (· < ·) := (norm_both l).2

theorem lt_unique : ∀ {a b : List T}, a.Pairwise (· < ·) → b.Pairwise (· < ·) → (∀ x, x ∈ a ↔ x ∈ b) → a = b
  | [], [], _, _, _ => rfl
  | [], y :: b, _, _, h => absurd ((h y).2 (by simp)) (by simp)
  | x :: a, [], _, _, h => absurd ((h x).1 (by simp)) (by simp)
  | x :: a, y :: b, ha, hb, h => by
    rw [List.pairwise_cons] at ha hb
    have hxy : x = y := by
      have h1 := (h x).1 (by simp)
      have h2 := (h y).2 (by simp)
      rcases List.mem_cons.1 h1 with e | h1
      · exact e
      · rcases List.mem_cons.1 h2 with e | h2
        · exact e.symm
        · exact absurd (List.lt_trans (ha.1 y h2) (hb.1 x h1)) (List.lt_irrefl _)
    subst hxy
    refine congrArg _ (lt_unique ha.2 hb.2 fun z => ?_)
    constructor
    · intro hz
      rcases List.mem_cons.1 ((h z).1 (by simp [hz])) with e | h1
      · subst e; exact absurd (ha.1 z hz) (List.lt_irrefl _)
      · exact h1
    · intro hz
      rcases List.mem_cons.1 ((h z).2 (by simp [hz])) with e | h1
      · subst e; exact absurd (hb.1 z hz) (List.lt_irrefl _)
      · exact h1

theorem norm_of_mem {a b : List T} (h : ∀ x, x ∈ a ↔ x ∈ b) : norm a = norm b :=
  lt_unique (norm_lt a) (norm_lt b) fun x => by rw [mem_norm, mem_norm]; exact h x
theorem norm_self {a : List T} (h : a.Pairwise (· < ·)) : norm a = a :=
  lt_unique (norm_lt a) h fun _ => mem_norm
end Go.Proofs.Ytldflgianmmaeaa
