/- kinds, in plain words: every kind stays in -1 .. 2. -/
import Derived.Test.YtjofndhbpglfgaaDoorKWantD
namespace Go.Proofs.YtjofndhbpglfgaaDoor
open Go.RowKit Go.Shelf

def Ran (l : List Int) : Prop := ∀ x ∈ l, -1 ≤ x ∧ x ≤ 2
theorem Ran.set_ {l : List Int} (h : Ran l) (i : Nat) {x : Int} (h1 : -1 ≤ x) (h2 : x ≤ 2) : Ran (l.set i x) := fun y hy => by
  rcases List.mem_or_eq_of_mem_set hy with hy | rfl
  · exact h y hy
  · exact ⟨h1, h2⟩
theorem Ran.kOf {l : List Int} (h : Ran l) (i : Nat) : -1 ≤ Proofs.YtjofndhbpglfgaaDoor.kOf l i ∧ Proofs.YtjofndhbpglfgaaDoor.kOf l i ≤ 2 := by
  unfold Proofs.YtjofndhbpglfgaaDoor.kOf
  rw [List.getD_eq_getElem?_getD]
  cases hq : l[i]? with
  | none => exact ⟨by decide, by decide⟩
  | some v => exact h v (List.mem_of_getElem? hq)
theorem Ran.join {up : List Nat} {kind : List Int} (h : Ran kind) (i k : Nat) : Ran (joinK up kind i k) := by
  unfold joinK
  split
  · exact h
  · have h1 := h.kOf (rt up i)
    have h2 := h.kOf (rt up k)
    exact h.set_ _ (by omega) (by omega)
theorem Ran.head {s : St} (h : Ran s.2) (t : Ty) (slot : Nat) : Ran (headP t slot s).2.2 := by
  unfold headP
  split
  · exact h.join _ _
  · split
    · exact h
    · split
      · exact h.set_ _ (by decide) (by decide)
      · exact h
theorem Ran.wantL {f : Ty → Nat → St → Option (Int × St)} (hf : ∀ t slot s r s', Ran s.2 → f t slot s = some (r, s') → Ran s'.2) : ∀ (ps : List (Ty × Nat)) (s : St) (r : Int) (s' : St), Ran s.2 → Proofs.YtjofndhbpglfgaaDoor.wantL f ps s = some (r, s') → Ran s'.2
  | [], s, r, s', h, e => by
    simp only [Proofs.YtjofndhbpglfgaaDoor.wantL, Option.some.injEq, Prod.mk.injEq] at e
    rw [← e.2]; exact h
  | x :: ps, s, r, s', h, e => by
    rw [Proofs.YtjofndhbpglfgaaDoor.wantL] at e
    split at e
    · cases e
    · rename_i r1 s1 h1
      have h2 := hf _ _ _ _ _ h h1
      split at e
      · simp only [Option.some.injEq, Prod.mk.injEq] at e
        rw [← e.2]; exact h2
      · exact Ran.wantL hf ps s1 r s' h2 e
theorem Ran.want {datas : List DataSig} {first vars : List Nat} : ∀ (q : Nat) (t : Ty) (slot : Nat) (s : St) (r : Int) (s' : St), Ran s.2 → wantP datas first vars q t slot s = some (r, s') → Ran s'.2
  | 0, _, _, _, _, _, _, e => by rw [wantP] at e; cases e
  | q + 1, t, slot, s, r, s', h, e => by
    rw [wantP] at e
    split at e
    · cases e
    split at e
    · split at e
      · simp only [Option.some.injEq, Prod.mk.injEq] at e
        rw [← e.2]; exact h
      · simp only [Option.some.injEq, Prod.mk.injEq] at e
        rw [← e.2]; exact h.join _ _
    · split at e
      · simp only [Option.some.injEq, Prod.mk.injEq] at e
        rw [← e.2]; exact h
      · split at e
        · simp only [Option.some.injEq] at e
          have e2 : (headP t slot s).2 = s' := by rw [e]
          rw [← e2]; exact h.head t slot
        · exact Ran.wantL (fun t slot s r s' a b => Ran.want q t slot s r s' a b) _ _ r s' (h.head t slot) e
end Go.Proofs.YtjofndhbpglfgaaDoor
