/- unify.check at every type. -/
import Derived.Test.YthchnabhbpdfgaaDoorUChkA
import Derived.Test.YthchnabhbpdfgaaDoorUChkB
import Derived.Test.YthchnabhbpdfgaaDoorUChkC
namespace Go.Proofs.YthchnabhbpdfgaaDoor
open Go.RowKit

set_option maxRecDepth 100000 in
set_option maxHeartbeats 4000000 in
theorem chk_out (k : Int) (hko : k < 0 ∨ 5 < k) (n : ByteArray) (v : Int) (l : List Ty) : ChkAt (.mk k n v l) := by
  intro W B p av left depth row hT hP hB0 hB hS hl0 hl1 hd0 hd1
  obtain ⟨A, c, rfl, hlc, hcm, _⟩ := hT.form
  have c0 := hP.cell (i := 0) rfl
  have f0 := hP.free 0
  have hpl := hP.lt
  simp only [Ty.kind, Ty.name, Ty.var, Ty.args] at *
  have hlm : l.length ≤ 9223372036854775807 := by unfold maxLen at hcm; omega
  by_cases h1 : left - 1 < 0
  · have HE := Lib.hid (show chk (.mk k n v l) left row depth = (2, left - 1) by rw [chk, if_pos (.inl h1)])
    go_enter Tryd.func15, Tryd.ntmps15
    go_wp2_with fail
    go_ret
    exact ⟨by rw [HE.out]; rfl, by rw [HE.out]; exact (hP.set_ 0 _).alloc _, ((Keeps.refl (· = p) W).setCell (p := ⟨p, 0, none⟩) (fun _ => rfl) _).alloc _⟩
  by_cases h2 : 400 < depth
  · have HE := Lib.hid (show chk (.mk k n v l) left row depth = (2, left - 1) by rw [chk, if_pos (.inr h2)])
    go_enter Tryd.func15, Tryd.ntmps15
    go_wp2_with fail
    go_ret
    exact ⟨by rw [HE.out]; rfl, by rw [HE.out]; exact (hP.set_ 0 _).alloc _, ((Keeps.refl (· = p) W).setCell (p := ⟨p, 0, none⟩) (fun _ => rfl) _).alloc _⟩
  have HE := Lib.hid (show chk (.mk k n v l) left row depth = (9, left - 1) by rw [chk, if_neg (by omega), if_pos hko])
  rcases hko with h3 | h3
  · skip
    go_enter Tryd.func15, Tryd.ntmps15
    go_wp2_with fail
    go_ret
    exact ⟨by rw [HE.out]; rfl, by rw [HE.out]; exact (hP.set_ 0 _).alloc _, ((Keeps.refl (· = p) W).setCell (p := ⟨p, 0, none⟩) (fun _ => rfl) _).alloc _⟩
  · have h4 : ¬ k < 0 := by omega
    go_enter Tryd.func15, Tryd.ntmps15
    go_wp2_with fail
    go_ret
    exact ⟨by rw [HE.out]; rfl, by rw [HE.out]; exact (hP.set_ 0 _).alloc _, ((Keeps.refl (· = p) W).setCell (p := ⟨p, 0, none⟩) (fun _ => rfl) _).alloc _⟩

theorem chk_all (t : Ty) : ChkAt t := by
  suffices h : ∀ (m : Nat) (t : Ty), SizeOf.sizeOf t ≤ m → ChkAt t from h _ t (Nat.le_refl _)
  intro m
  induction m with
  | zero => intro t ht; cases t; simp at ht
  | succ m ihm =>
    intro t ht
    obtain ⟨k, n, v, l⟩ := t
    have ih : ∀ a ∈ l, ChkAt a := fun a ha => ihm a (by
      have := List.sizeOf_lt_of_mem ha
      simp at ht; omega)
    by_cases h0 : k = 0
    · subst h0; exact chk_k0 n v l ih
    by_cases h1 : k = 1
    · subst h1; exact chk_k1 n v l ih
    by_cases h2 : k = 2
    · subst h2; exact chk_k2 n v l ih
    by_cases h3 : k = 3
    · subst h3; exact chk_k3 n v l ih
    by_cases h4 : k = 4
    · subst h4; exact chk_k4 n v l ih
    by_cases h5 : k = 5
    · subst h5; exact chk_k5 n v l ih
    exact chk_out k (by omega) n v l
end Go.Proofs.YthchnabhbpdfgaaDoor
