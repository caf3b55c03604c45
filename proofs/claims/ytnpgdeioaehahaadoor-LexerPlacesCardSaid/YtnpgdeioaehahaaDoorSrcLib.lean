/- The library at texts: strings.Split at a line feed, by the shelf's contracts. -/
import Derived.Test.YtnpgdeioaehahaaDoorShelfSrc
import Derived.Test.YtnpgdeioaehahaaDoorLines
import Derived.Test.YtnpgdeioaehahaaDoorStrClone
namespace Go.Proofs.YtnpgdeioaehahaaDoor
open Go.RowKit Go.Shelf

/-- The pieces of a text at line feeds. -/
def LB (s : ByteArray) : List ByteArray := Lib.splitB ⟨#[10]⟩ 0 (Lib.countB s ⟨#[10]⟩) s
theorem countB_nl (s : ByteArray) : Lib.countB s ⟨#[10]⟩ = s.data.toList.count 10 := Lib.count_one 10 s.data.toList
theorem LB_lines (s : ByteArray) : (LB s).map (·.data.toList) = lines s.data.toList := by
  rw [LB, Lib.splitB_data, countB_nl]; rfl
theorem LB_length (s : ByteArray) : (LB s).length = s.data.toList.count 10 + 1 := by rw [← lines_length, ← LB_lines, List.length_map]
theorem LB_get {s : ByteArray} {k : Nat} {x : ByteArray} (h : (LB s)[k]? = some x) : (lines s.data.toList)[k]? = some x.data.toList := by
  rw [← LB_lines, List.getElem?_map, h]; rfl
theorem LB_size {s : ByteArray} {k : Nat} {x : ByteArray} (h : (LB s)[k]? = some x) : x.size ≤ s.size := by
  have := lines_le _ _ (List.mem_of_getElem? (LB_get h))
  rw [Lib.size_eq, Lib.size_eq]; exact this

set_option maxHeartbeats 1000000 in
theorem strSplit (s : ByteArray) (w : World) (hs : s.size < 4294967281) :
    Calls Tryd.prog 9 #[.string s, .string ⟨#[10]⟩] w fun e w' => ∃ g, e = .returned (.slice (some ⟨g, 0, none⟩) (LB s).length (LB s).length) ∧ w.heap.size ≤ g ∧
      (∀ (j : Nat) x, (LB s)[j]? = some x → w'.cell? ⟨g, j, none⟩ = some (.string x)) ∧ Below w.heap.size w w' := by
  have h1 : 1 ≤ (⟨#[10]⟩ : ByteArray).size := by decide
  have hle := Lib.countB_le ⟨#[10]⟩ h1 s.size s (Nat.le_refl _)
  have hlen : (LB s).length = Lib.countB s ⟨#[10]⟩ + 1 := Lib.splitB_all ⟨#[10]⟩ h1 0 _ s rfl
  have c := Any.strings_genSplit_core (ρ := Tryd.lays146_ren) { Tryd.lays146 with } (by kernel_rfl) s ⟨#[10]⟩ 0 (-1) (Lib.countB s ⟨#[10]⟩ + 1) w hs h1 (Nat.zero_le _)
    (fun x c _ => (Any.strings_Index_one (ρ := Tryd.lays146_ren) { Tryd.lays146 with } x 10 _).mono fun e w' ⟨he, hw⟩ => ⟨by rw [he]; show _ = Ending.returned (.int .i64 (Lib.index x.data.toList [10])); rw [index_nl], hw⟩)
    ((Any.strings_Count_one (ρ := Tryd.lays146_ren) { Tryd.lays146 with } s 10 w).mono fun e w' ⟨he, hw⟩ => ⟨by rw [he, countB_nl]; rfl, hw⟩) (by decide) (by decide) (by rw [if_pos (by decide)]; omega)
  rw [Nat.add_sub_cancel] at c
  change Calls Tryd.prog 23 #[.string s, .string ⟨#[10]⟩, .int .i64 0, .int .i64 (-1)] w (fun e w' => e = .returned (.slice (some ⟨w.heap.size, 0, none⟩) (LB s).length (Lib.countB s ⟨#[10]⟩ + 1)) ∧ w' = w.alloc (.cells (Lib.cellsOf (LB s) (Lib.countB s ⟨#[10]⟩ + 1)) 9)) at c
  rw [← hlen, Lib.cellsOf_full] at c
  have C := Lib.hid c
  clear c hlen hle
  go_enter Tryd.func9, Tryd.ntmps9
  go_wp2_with fail
  with_reducible refine C.out.mono ?_
  rintro e w' ⟨rfl, rfl⟩
  go_wp2
  go_ret
  refine ⟨_, rfl, Nat.le_refl _, fun j x hx => ?_, Below.alloc (Below.refl _ _) (Nat.le_refl _) _⟩
  have hj : j < (LB s).length := (List.getElem?_eq_some_iff.1 hx).1
  have hb : Blk (w.alloc (.cells ((LB s).map Value.string).toArray 9)) w.heap.size 9 ((LB s).map Value.string) := Blk.new _ _ _
  exact hb.cell (by rw [List.getElem?_map, hx]; rfl)
end Go.Proofs.YtnpgdeioaehahaaDoor
