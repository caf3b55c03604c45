/- Parse at the texts of ParserRecovers: what the kernel has found holds in the model. No conditions. -/
import Derived.Test.YtnkbpjmijeeddaaGreatDoorPrTxt
namespace Go.Proofs.YtnkbpjmijeeddaaGreatDoor.pr
open Go Go.RowKit Go.Proofs.YtnkbpjmijeeddaaGreatDoor.Ev
def bs (l : List Nat) : ByteArray := ⟨(toBs l).toArray⟩
theorem toBs_back : ∀ {l : List Nat}, ltN 256 l = true → (toBs l).map UInt8.toNat = l
  | [], _ => rfl
  | x :: l, h => by
    unfold ltN at h
    rw [List.all_cons, Bool.and_eq_true] at h
    have hx : x < 256 := blt_iff.1 h.1
    have ih := toBs_back (l := l) h.2
    unfold toBs at ih ⊢
    rw [List.map_cons, List.map_cons, ih]
    congr 1
    show (UInt8.ofNat x).toNat = x
    rw [UInt8.toNat_ofNat']; omega
theorem parse_at (l : List Nat) (a b : Int) (h : runAt l a b = true) (W : World) (m : Int) (hm : W.cell? ⟨0, 0, none⟩ = some (.int .i64 m)) :
    Calls Tryz.prog 4 #[.string (bs l)] W fun en W' => BadsAt 5 a b en W' ∧ Below W.heap.size W W' := by
  unfold runAt at h
  rw [frcNs_eq] at h
  obtain ⟨h1, h2⟩ := Bool.and_eq_true_iff.1 h
  exact bads_ok (sy := fun _ => .int .i64 m) (prs_ok (kn := []) (m := m) rfl (fun x hx => by cases hx) (fun x hx => by cases hx)) (k := 0) (G := 1) (nx := 1) (L := 1000) (n := 200) (args := [.string (bs l)]) (Nat.lt_succ_self 0) (Nat.le_refl 1) (by unfold top; omega) h2
    (World.block_lt_of_cell? _ _ hm) rfl hm (.cons (.str (by unfold bs; simpa using toBs_back h1)) .eol) (enters Tryz.func4 (by kernel_rfl) (by kernel_rfl) _ W)
end Go.Proofs.YtnkbpjmijeeddaaGreatDoor.pr
