/- layout.Mark. -/
import Derived.Test.YtcjoapmodaioiaaGreatDoorLayC
namespace Go.Proofs.YtcjoapmodaioiaaGreatDoor
open Go.RowKit Go.Shelf

theorem phi_pop (m : Mk) : phi m.pop ≤ phi m := by
  show m.out.length + m.st.dropLast.length ≤ _
  rw [List.length_dropLast]
  unfold phi
  omega
theorem phi_put (m : Mk) (k : Int) (t : Tok) : phi (m.put k t) = phi m + 1 := by
  show (m.out ++ [tokAt k t]).length + m.st.length = _
  rw [List.length_append]
  unfold phi
  simp only [List.length_cons, List.length_nil]
  omega
theorem phi_push (m : Mk) (c : Ctx) : phi (m.push c) = phi m + 1 := by
  show m.out.length + (m.st ++ [c]).length = _
  rw [List.length_append]
  unfold phi
  simp only [List.length_cons, List.length_nil]
  omega
theorem phi_lineL (t : Tok) (ht : 0 ≤ t.col) : ∀ (n : Nat) (m : Mk), phi (lineL t n m) = phi m
  | 0, _ => rfl
  | n + 1, m => by
    rw [lineL]
    split
    · rename_i h
      rw [phi_lineL t ht n, phi_close t (top_ne ht h)]
    · rfl
theorem phi_lineP (t : Tok) (ht : 0 ≤ t.col) (m : Mk) : phi (lineP t m) ≤ phi m + 1 := by
  unfold lineP
  dsimp only
  split
  · rw [phi_put, phi_lineL t ht]; omega
  · rw [phi_lineL t ht]; omega
theorem phi_inL (t : Tok) : ∀ (n : Nat) (m : Mk), m.st.length = n → letsP m.st = true → phi (inL t n m) = phi m
  | 0, _, _, _ => rfl
  | n + 1, m, hn, h => by
    have h1 := close_len t (letsP_ne h)
    have h2 := inL_go t h
    rw [inL]
    split
    · rw [phi_close t (letsP_ne h)]
    · rename_i ho
      rw [phi_inL t n _ (by omega) (h2.2 ho), phi_close t (letsP_ne h)]
theorem phi_beforeP (t : Tok) (m : Mk) : phi (beforeP t m) ≤ phi m := by
  unfold beforeP
  split
  · dsimp only
    split
    · exact Nat.le_trans (phi_pop _) (by unfold shutP; rw [phi_shutL]; exact Nat.le_refl _)
    · unfold shutP; rw [phi_shutL]; exact Nat.le_refl _
  · split
    · split
      · unfold shutP; rw [phi_shutL]; exact Nat.le_refl _
      · exact Nat.le_refl _
    · split
      · split
        · rename_i h
          rw [phi_inL t _ m rfl h]; exact Nat.le_refl _
        · exact Nat.le_refl _
      · exact Nat.le_refl _
theorem phi_blockP (p : Option Tok) (t : Tok) (m : Mk) : phi (blockP p t m).1 ≤ phi m + 2 := by
  cases p with
  | none => show phi m ≤ _; omega
  | some q =>
    unfold blockP
    dsimp only
    split
    · show phi m ≤ _; omega
    · split
      · show phi m ≤ _; omega
      · split
        · show phi ((m.put 6 t).push ⟨t.col, q.text⟩) ≤ _
          rw [phi_push, phi_put]; omega
        · show phi ((m.put 6 t).put 7 t) ≤ _
          rw [phi_put, phi_put]; omega
theorem phi_tok (m : Mk) (t : Tok) : phi ⟨m.st, m.out ++ [t]⟩ = phi m + 1 := by
  show (m.out ++ [t]).length + m.st.length = _
  rw [List.length_append]
  unfold phi
  simp only [List.length_cons, List.length_nil]
  omega
theorem phi_stepP (p : Option Tok) (t : Tok) (ht : 0 ≤ t.col) (m : Mk) : phi (stepP p t m) ≤ phi m + 5 := by
  unfold stepP
  dsimp only
  have h1 := phi_blockP p t m
  split
  · omega
  · have h2 : phi (if (blockP p t m).2 = true then lineP t (blockP p t m).1 else (blockP p t m).1) ≤ phi m + 3 := by
      split
      · have := phi_lineP t ht (blockP p t m).1; omega
      · omega
    have h3 := phi_beforeP t (if (blockP p t m).2 = true then lineP t (blockP p t m).1 else (blockP p t m).1)
    split
    · rw [phi_push, phi_tok]; omega
    · rw [phi_tok]; omega
def atM (l : List Tok) (j : Nat) : Mk := goM none (l.take j) ⟨[], []⟩
theorem goM_snoc : ∀ (a : List Tok) (p : Option Tok) (e : Tok) (m : Mk), goM p (a ++ [e]) m = stepP (a.getLast?.or p) e (goM p a m)
  | [], p, e, m => by simp [goM]
  | t :: a, p, e, m => by
    rw [List.cons_append, goM, goM_snoc a (some t) e, goM]
    congr 1
    cases a with
    | nil => rfl
    | cons b a =>
      obtain ⟨x, hx⟩ : ∃ x, (b :: a).getLast? = some x := ⟨_, List.getLast?_eq_some_getLast (by simp)⟩
      rw [List.getLast?_cons_cons, hx]; rfl
theorem atM_succ (l : List Tok) (j : Nat) (h : j < l.length) : atM l (j + 1) = stepP (pv l j) l[j] (atM l j) := by
  unfold atM
  rw [List.take_succ_eq_append_getElem h, goM_snoc]
  congr 1
  cases j with
  | zero => rfl
  | succ i =>
    rw [List.take_succ_eq_append_getElem (by omega), List.getLast?_concat]
    show _ = l[i]?
    rw [List.getElem?_eq_getElem (by omega)]; rfl
theorem phi_atM (l : List Tok) (hc : ∀ t ∈ l, 0 ≤ t.col) : ∀ j, j ≤ l.length → phi (atM l j) ≤ 5 * j
  | 0, _ => by show phi (goM none (l.take 0) ⟨[], []⟩) ≤ 0; rw [List.take_zero]; exact Nat.le_refl _
  | j + 1, h => by
    have h1 := phi_atM l hc j (by omega)
    have h2 := phi_stepP (pv l j) l[j] (hc _ (List.getElem_mem _)) (atM l j)
    rw [atM_succ l j (by omega)]
    omega
theorem atM_all (l : List Tok) : atM l l.length = goM none l ⟨[], []⟩ := by unfold atM; rw [List.take_of_length_le (Nat.le_refl _)]
end Go.Proofs.YtcjoapmodaioiaaGreatDoor
