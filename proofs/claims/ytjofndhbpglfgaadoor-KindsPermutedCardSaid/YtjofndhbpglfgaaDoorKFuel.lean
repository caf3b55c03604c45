/- kinds.want, in plain words: it answers at every type that has been checked. -/
import Derived.Test.YtjofndhbpglfgaaDoorKWantD
import Derived.Test.YtjofndhbpglfgaaDoorUOccL
namespace Go.Proofs.YtjofndhbpglfgaaDoor
open Go.RowKit Go.Shelf

theorem Okt.shape {t : Ty} (h : Okt t) : Proofs.YtjofndhbpglfgaaDoor.shape t := by
  obtain ⟨left, row, depth, h⟩ := h
  cases t with
  | mk k n v l =>
  rw [chk] at h
  split at h
  · exact absurd (show (2 : Int) = 0 from h) (by decide)
  split at h
  · exact absurd (show (9 : Int) = 0 from h) (by decide)
  split at h
  · exact absurd (show (3 : Int) = 0 from h) (by decide)
  rename_i h3
  split at h
  · exact absurd (show (9 : Int) = 0 from h) (by decide)
  split at h
  · exact absurd (show (4 : Int) = 0 from h) (by decide)
  rename_i h4
  have hl : ∀ (m : Int), 0 ≤ sz k → sz k = m → (l.length : Int) = m := fun m h0 hm => by
    by_cases hl : (l.length : Int) = m
    · exact hl
    · exact absurd (.inl ⟨h0, by rw [hm]; exact hl⟩) h3
  refine ⟨fun h0 => ?_, fun h2 => ?_, fun h3 => ?_, fun h5 => ?_⟩
  · have h0' : k = 0 := h0
    show 0 ≤ v
    by_cases hv : v < 0
    · exact absurd ⟨h0', .inl hv⟩ h4
    · omega
  · have h' : k = 2 := h2
    subst h'
    have := hl 3 (by decide) (by decide)
    show l.length = 3
    omega
  · have h' : k = 3 := h3
    subst h'
    have := hl 1 (by decide) (by decide)
    show l.length = 1
    omega
  · have h' : k = 5 := h5
    subst h'
    have := hl 2 (by decide) (by decide)
    show l.length = 2
    omega
theorem partsP_mem {datas : List DataSig} {first : List Nat} {t : Ty} {slot : Nat} {ps : List (Ty × Nat)} (e : partsP datas first t slot = .ok ps) : ∀ x ∈ ps, x.1 ∈ t.args := by
  unfold partsP at e
  split at e
  · split at e
    · cases e
    · split at e
      · cases e
      · intro x hx
        rw [← Except.ok.inj e] at hx
        exact (List.of_mem_zip hx).1
  · split at e
    · split at e
      · rename_i a b c ha
        intro x hx
        rw [← Except.ok.inj e] at hx
        rw [ha]
        simp at hx ⊢
        rcases hx with rfl | rfl | rfl <;> simp
      · intro x hx; rw [← Except.ok.inj e] at hx; simp at hx
    · split at e
      · split at e
        · rename_i a ha
          intro x hx
          rw [← Except.ok.inj e] at hx
          rw [ha]
          simp at hx ⊢
          rw [hx]
        · intro x hx; rw [← Except.ok.inj e] at hx; simp at hx
      · split at e
        · split at e
          · rename_i a b ha
            intro x hx
            rw [← Except.ok.inj e] at hx
            rw [ha]
            simp at hx ⊢
            rcases hx with rfl | rfl <;> simp
          · intro x hx; rw [← Except.ok.inj e] at hx; simp at hx
        · intro x hx; rw [← Except.ok.inj e] at hx; simp at hx
theorem wantL_some {f : Ty → Nat → St → Option (Int × St)} : ∀ (ps : List (Ty × Nat)) (s : St), (∀ x ∈ ps, ∀ s, ∃ r s', f x.1 x.2 s = some (r, s')) → ∃ r s', wantL f ps s = some (r, s')
  | [], s, _ => ⟨_, _, rfl⟩
  | x :: ps, s, h => by
    obtain ⟨r, s', e⟩ := h x (by simp) s
    rw [wantL, e]
    dsimp only
    split
    · exact ⟨_, _, rfl⟩
    · exact wantL_some ps s' fun y hy => h y (by simp [hy])
theorem arg_size {t a : Ty} (h : a ∈ t.args) : SizeOf.sizeOf a < SizeOf.sizeOf t := by
  cases t with
  | mk k n v l =>
  have := List.sizeOf_lt_of_mem (show a ∈ l from h)
  rw [Ty.mk.sizeOf_spec]
  omega
theorem wantP_some (datas : List DataSig) (first vars : List Nat) : ∀ (q : Nat) (t : Ty) (slot : Nat) (s : St), Okt t → SizeOf.sizeOf t ≤ q → ∃ r s', wantP datas first vars q t slot s = some (r, s')
  | 0, t, _, _, _, h => by
    cases t
    rw [Ty.mk.sizeOf_spec] at h
    omega
  | q + 1, t, slot, s, ho, h => by
    rw [wantP, if_neg (fun hn => hn ho.shape)]
    split
    · split
      · exact ⟨_, _, rfl⟩
      · exact ⟨_, _, rfl⟩
    · split
      · exact ⟨_, _, rfl⟩
      · rename_i ps hps
        split
        · exact ⟨_, _, rfl⟩
        · exact wantL_some ps _ fun x hx s => by
            have hm := partsP_mem hps x hx
            exact wantP_some datas first vars q x.1 x.2 s (ho.parts.2 _ hm) (by have := arg_size hm; omega)
end Go.Proofs.YtjofndhbpglfgaaDoor
