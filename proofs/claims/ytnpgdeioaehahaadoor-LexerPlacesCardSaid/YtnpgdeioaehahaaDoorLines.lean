/- Lines of a text, in plain Lean: what the library cuts, joins and counts at a line feed. -/
import Derived.Lib.SplitLaws
import Derived.Lib.IndexLaws
import Derived.Lib.Join
import Derived.Lib.LastIndexByte
namespace Go.Proofs.YtnpgdeioaehahaaDoor
open Go

/-- The index of the first line feed, from the library's word. -/
theorem idx_none {l : List UInt8} (h : (10 : UInt8) ∉ l) : Lib.indexByte l 10 = -1 := by
  induction l with
  | nil => rfl
  | cons c t ih =>
    have hc : (c == 10) = false := beq_eq_false_iff_ne.2 fun e => h (by simp [e])
    rw [Lib.indexByte, hc, ih (fun m => h (by simp [m]))]; rfl

theorem idx_hit {A B : List UInt8} (h : (10 : UInt8) ∉ A) : Lib.indexByte (A ++ 10 :: B) 10 = A.length := by
  induction A with
  | nil => simp [Lib.indexByte]
  | cons c t ih =>
    have hc : (c == 10) = false := beq_eq_false_iff_ne.2 fun e => h (by simp [e])
    have := ih (fun m => h (by simp [m]))
    rw [List.cons_append, Lib.indexByte, hc, this]
    have h1 : (((t.length : Nat) : Int) == -1) = false := beq_eq_false_iff_ne.2 (by omega)
    simp [h1]

theorem index_nl (l : List UInt8) : Lib.index l [10] = Lib.indexByte l 10 := by
  induction l with
  | nil => rfl
  | cons c t ih =>
    rw [Lib.index, Lib.indexByte, ih]
    by_cases hc : c = 10
    · subst hc; simp
    · have h1 : (c == 10) = false := beq_eq_false_iff_ne.2 hc
      have h2 : List.isPrefixOf [10] (c :: t) = false := by simp [List.isPrefixOf]; exact fun e => hc e.symm
      rw [h1, h2]

theorem cases_nl : ∀ l : List UInt8, (10 : UInt8) ∉ l ∨ ∃ A B, l = A ++ 10 :: B ∧ (10 : UInt8) ∉ A
  | [] => .inl (by simp)
  | c :: t => by
    by_cases hc : c = 10
    · exact .inr ⟨[], t, by simp [hc], by simp⟩
    · rcases cases_nl t with h | ⟨A, B, rfl, h⟩
      · exact .inl (by simp [h]; exact fun e => hc e.symm)
      · exact .inr ⟨c :: A, B, by simp, by simp [h]; exact fun e => hc e.symm⟩

/-- A text's lines. -/
def lines (l : List UInt8) : List (List UInt8) := Lib.splitK [10] 0 (l.count 10) l

theorem count_no {l : List UInt8} (h : (10 : UInt8) ∉ l) : l.count 10 = 0 := List.count_eq_zero.2 h
theorem count_nl {A B : List UInt8} (h : (10 : UInt8) ∉ A) : (A ++ 10 :: B).count 10 = B.count 10 + 1 := by
  rw [List.count_append, count_no h, List.count_cons_self]; omega

theorem lines_one {l : List UInt8} (h : (10 : UInt8) ∉ l) : lines l = [l] := by rw [lines, count_no h]; rfl
theorem lines_cons {A B : List UInt8} (h : (10 : UInt8) ∉ A) : lines (A ++ 10 :: B) = A :: lines B := by
  have hi : Lib.index (A ++ 10 :: B) [10] = A.length := by rw [index_nl, idx_hit h]
  have hm : ¬ (((A.length : Nat) : Int) == -1) = true := fun e => by have := beq_iff_eq.1 e; omega
  rw [lines, count_nl h, Lib.splitK, hi, if_neg hm, lines]
  simp only [Int.toNat_natCast, Nat.add_zero, List.length_singleton]
  have t1 : (A ++ 10 :: B).take A.length = A := by simp
  have t2 : (A ++ 10 :: B).drop (A.length + 1) = B := by rw [← List.drop_drop]; simp
  rw [t1, t2]

theorem lines_ind {p : List UInt8 → Prop} (h1 : ∀ l, (10 : UInt8) ∉ l → p l) (h2 : ∀ A B, (10 : UInt8) ∉ A → p B → p (A ++ 10 :: B)) (l : List UInt8) : p l := by
  rcases cases_nl l with h | ⟨A, B, rfl, h⟩
  · exact h1 l h
  · exact h2 A B h (lines_ind h1 h2 B)
termination_by l.length
decreasing_by simp_all; omega

theorem lines_length (l : List UInt8) : (lines l).length = l.count 10 + 1 := by
  refine lines_ind (p := fun l => (lines l).length = l.count 10 + 1) (fun l h => ?_) (fun A B h ih => ?_) l
  · rw [lines_one h, count_no h]; rfl
  · rw [lines_cons h, count_nl h, List.length_cons, ih]

theorem lines_join (l : List UInt8) : Lib.join (lines l) [10] = l := by
  refine lines_ind (p := fun l => Lib.join (lines l) [10] = l) (fun l h => ?_) (fun A B h ih => ?_) l
  · rw [lines_one h, Lib.join_one]
  · rw [lines_cons h, Lib.join_cons]
    have hne : lines B ≠ [] := fun e => by have := lines_length B; rw [e] at this; simp at this
    obtain ⟨x, r, hx⟩ := List.exists_cons_of_ne_nil hne
    rw [hx] at ih ⊢
    rw [Lib.join_cons] at ih
    rw [← ih]
    simp [Lib.joinTail]

theorem lines_le (l : List UInt8) : ∀ x ∈ lines l, x.length ≤ l.length := by
  refine lines_ind (p := fun l => ∀ x ∈ lines l, x.length ≤ l.length) (fun l h => ?_) (fun A B h ih => ?_) l
  · rw [lines_one h]; simp
  · rw [lines_cons h]
    intro x hx
    rcases List.mem_cons.1 hx with rfl | hx
    · simp
    · have := ih x hx; simp; omega

/-- Where line number k (from 0) begins: as the program reckons it. -/
def start (l : List UInt8) : Nat → Nat
  | 0 => 0
  | k + 1 => start l k + (Lib.indexByte (l.drop (start l k)) 10 + 1).toNat

theorem start_le (l : List UInt8) : ∀ k, start l k ≤ l.length
  | 0 => Nat.zero_le _
  | k + 1 => by
    have ih := start_le l k
    rw [start]
    rcases cases_nl (l.drop (start l k)) with h | ⟨A, B, e, h⟩
    · rw [idx_none h]; simpa using ih
    · rw [e, idx_hit h]
      have := congrArg List.length e
      simp only [List.length_drop, List.length_append, List.length_cons] at this
      omega

theorem start_succ (l : List UInt8) (k : Nat) : (start l (k + 1) : Int) = (start l k : Int) + Lib.indexByte (l.drop (start l k)) 10 + 1 := by
  have := Lib.indexByte_ge (l.drop (start l k)) 10
  rw [start]; omega

theorem start_cons {A B : List UInt8} (h : (10 : UInt8) ∉ A) : ∀ k, start (A ++ 10 :: B) (k + 1) = A.length + 1 + start B k
  | 0 => by
    have := start_succ (A ++ 10 :: B) 0
    have z : start (A ++ 10 :: B) 0 = 0 := rfl
    rw [z, List.drop_zero, idx_hit h] at this
    have z2 : start B 0 = 0 := rfl
    omega
  | k + 1 => by
    have ih := start_cons (B := B) h k
    have e1 := start_succ (A ++ 10 :: B) (k + 1)
    have e2 := start_succ B k
    have t2 : (A ++ 10 :: B).drop (A.length + 1 + start B k) = B.drop (start B k) := by rw [← List.drop_drop, ← List.drop_drop]; simp
    rw [ih, t2] at e1
    omega

/-- A byte's line and the beginning of that line. -/
theorem place_law (R : List UInt8) : ∀ (A : List UInt8) (s : Nat), s ≤ A.length → (10 : UInt8) ∉ A.drop s → (s = 0 ∨ A[s - 1]? = some 10) →
    start (A ++ R) (A.count 10) = s ∧ ∃ x, (lines (A ++ R))[A.count 10]? = some x ∧ A.length - s ≤ x.length := by
  intro A
  refine lines_ind (p := fun A => ∀ s, s ≤ A.length → (10 : UInt8) ∉ A.drop s → (s = 0 ∨ A[s - 1]? = some 10) →
    start (A ++ R) (A.count 10) = s ∧ ∃ x, (lines (A ++ R))[A.count 10]? = some x ∧ A.length - s ≤ x.length) (fun A h s hs hd h0 => ?_) (fun A B h ih s hs hd h0 => ?_) A
  · have hs0 : s = 0 := by
      rcases h0 with h0 | h0
      · exact h0
      · exact absurd (List.mem_of_getElem? h0) h
    subst hs0
    rw [count_no h]
    refine ⟨rfl, ?_⟩
    rcases cases_nl R with hr | ⟨C, D, rfl, hr⟩
    · rw [lines_one (by simp [h, hr])]; exact ⟨_, rfl, by simp⟩
    · rw [← List.append_assoc, lines_cons (by simp [h, hr])]; exact ⟨_, rfl, by simp⟩
  · have hsA : A.length + 1 ≤ s := by
      refine Nat.lt_of_not_le fun hle => hd ?_
      rw [List.drop_append_of_le_length hle]; simp
    obtain ⟨u, rfl⟩ : ∃ u, s = A.length + 1 + u := ⟨s - (A.length + 1), by omega⟩
    have hu : u ≤ B.length := by simp at hs; omega
    have t2 : (A ++ 10 :: B).drop (A.length + 1 + u) = B.drop u := by rw [← List.drop_drop, ← List.drop_drop]; simp
    have hu0 : u = 0 ∨ B[u - 1]? = some 10 := by
      rcases Nat.eq_zero_or_pos u with rfl | hp
      · exact .inl rfl
      · right
        rcases h0 with h0 | h0
        · omega
        · rw [List.getElem?_append_right (by omega), show A.length + 1 + u - 1 - A.length = (u - 1) + 1 from by omega, List.getElem?_cons_succ] at h0
          exact h0
    obtain ⟨e1, x, e2, e3⟩ := ih u hu (by rw [← t2]; exact hd) hu0
    rw [count_nl h, List.append_assoc, List.cons_append, start_cons h, lines_cons h, List.getElem?_cons_succ, e1]
    exact ⟨rfl, x, e2, by simp; omega⟩

/-- The library's word on the last line feed, as a beginning. -/
theorem last_start (a : ByteArray) : ∃ s : Nat, Lib.lastIndexByte a 10 = (s : Int) - 1 ∧ s ≤ a.size ∧ (10 : UInt8) ∉ a.data.toList.drop s ∧ (s = 0 ∨ a.data.toList[s - 1]? = some 10) := by
  have bang : ∀ j : Nat, j < a.size → a.data.toList[j]? = some (a.data[j]!) := fun j hj => by
    have hj' : j < a.data.size := hj
    rw [Array.getElem?_toList, Array.getElem?_eq_getElem hj', getElem!_pos a.data j hj']
  have ten : ∀ j : Nat, ((a.data[j]!).toNat : Int) = 10 ↔ a.data[j]! = 10 := fun j => by
    constructor
    · intro h; exact UInt8.toNat_inj.1 (by rw [show (10 : UInt8).toNat = 10 from rfl]; omega)
    · intro h; rw [h]; rfl
  have notin : ∀ s : Nat, (∀ j : Nat, s ≤ j → j < a.size → ((a.data[j]!).toNat : Int) ≠ 10) → (10 : UInt8) ∉ a.data.toList.drop s := fun s h hm => by
    obtain ⟨i, hi⟩ := List.mem_iff_getElem?.1 hm
    rw [List.getElem?_drop] at hi
    have hlt : s + i < a.size := by
      have := List.getElem?_eq_some_iff.1 hi
      obtain ⟨h1, _⟩ := this
      simpa using h1
    rw [bang _ hlt] at hi
    exact h (s + i) (by omega) hlt ((ten _).2 (Option.some.inj hi))
  rcases Lib.lastIndexByte_spec a 10 with ⟨h1, h2⟩ | ⟨i, h1, h2, h3, h4⟩
  · exact ⟨0, by rw [h1]; rfl, Nat.zero_le _, notin 0 (fun j _ hj => h2 j hj), .inl rfl⟩
  · refine ⟨i + 1, by rw [h2]; omega, h1, notin _ (fun j hj hj' => h4 j (by omega) hj'), .inr ?_⟩
    rw [Nat.add_sub_cancel, bang i h1, (ten i).1 h3]
end Go.Proofs.YtnpgdeioaehahaaDoor
