/- Rows of structs of four cells in a block of their own: reading, exchanging. No conditions. -/
import Derived.Test.YtdljlpogljjldaaDoorBase
import Derived.Test.YtdljlpogljjldaaDoorStabA
import Derived.Sort.Grow
namespace Go.Proofs.YtdljlpogljjldaaDoor
open Go.RowKit Go.Sort
/-- Four values. -/
structure V4 where
  e0 : Value
  e1 : Value
  e2 : Value
  e3 : Value
instance : Inhabited V4 := ⟨⟨.bool false, .bool false, .bool false, .bool false⟩⟩
def V4.cells (x : V4) : List Value := [x.e0, x.e1, x.e2, x.e3]
def V4.agg (x : V4) : Value := .agg #[x.e0, x.e1, x.e2, x.e3]
def V4.cell (x : V4) (j : Nat) : Value := if j = 0 then x.e0 else if j = 1 then x.e1 else if j = 2 then x.e2 else x.e3
/-- The block holds the row d, and whatever behind it; all else is as in W0, but for what is new. -/
structure Row (Fm : V4 → Prop) (W0 W : World) (blk : Nat) (t : TypeId) (tl : List Value) (d : Array V4) : Prop where
  keeps : Keeps (· = blk) W0 W
  blk : Blk W blk t (d.toList.flatMap V4.cells ++ tl)
  one : ∀ i, i < d.size → Fm d[i]!
theorem flat4_len : ∀ l : List V4, (l.flatMap V4.cells).length = l.length * 4
  | [] => rfl
  | x :: l => by
    rw [List.flatMap_cons, List.length_append, flat4_len l, List.length_cons]
    simp only [V4.cells, List.length_cons, List.length_nil]; omega
theorem flat4_get : ∀ (l : List V4) (i : Nat) (x : V4) (j : Nat), l[i]? = some x → j < 4 → (l.flatMap V4.cells)[i * 4 + j]? = some (x.cell j)
  | [], _, _, _, h, _ => by simp at h
  | y :: l, 0, x, j, h, hj => by
    simp at h; subst h
    rw [List.flatMap_cons, Nat.zero_mul, Nat.zero_add, List.getElem?_append_left (by simpa [V4.cells] using hj)]
    match j, hj with
    | 0, _ => rfl
    | 1, _ => rfl
    | 2, _ => rfl
    | 3, _ => rfl
  | y :: l, i + 1, x, j, h, hj => by
    rw [List.flatMap_cons, List.getElem?_append_right (by simp [V4.cells]; omega), ← flat4_get l i x j (by simpa using h) hj]
    congr 1
    simp [V4.cells]; omega
theorem flat4_set : ∀ (l : List V4) (i : Nat) (y : V4), i < l.length → ((((l.flatMap V4.cells).set (i * 4) y.e0).set (i * 4 + 1) y.e1).set (i * 4 + 2) y.e2).set (i * 4 + 3) y.e3 = (l.set i y).flatMap V4.cells
  | [], _, _, h => by simp at h
  | z :: l, 0, y, h => by
    rw [List.flatMap_cons, List.set_cons_zero, List.flatMap_cons]
    rfl
  | z :: l, i + 1, y, h => by
    rw [List.flatMap_cons, List.set_cons_succ, List.flatMap_cons, ← flat4_set l i y (by simpa using h)]
    have e : z.cells.length = 4 := rfl
    rw [List.set_append, if_neg (by omega), List.set_append, if_neg (by omega), List.set_append, if_neg (by omega), List.set_append, if_neg (by omega)]
    congr 1
    rw [e, show (i + 1) * 4 - 4 = i * 4 by omega, show (i + 1) * 4 + 1 - 4 = i * 4 + 1 by omega, show (i + 1) * 4 + 2 - 4 = i * 4 + 2 by omega, show (i + 1) * 4 + 3 - 4 = i * 4 + 3 by omega]
section
variable {Fm : V4 → Prop} {W0 W W' : World} {blk : Nat} {t : TypeId} {tl : List Value} {d : Array V4}
theorem Row.at_ (h : Row Fm W0 W blk t tl d) {i : Nat} (hi : i < d.size) {x : V4} (hx : d[i]! = x) {off : Nat} (ho : off = 0) :
    W.cell? ⟨blk, off + i * 4, none⟩ = some x.e0 ∧ W.cell? ⟨blk, off + i * 4 + 1, none⟩ = some x.e1 ∧ W.cell? ⟨blk, off + i * 4 + 2, none⟩ = some x.e2 ∧ W.cell? ⟨blk, off + i * 4 + 3, none⟩ = some x.e3 := by
  subst ho
  have hl : d.toList[i]? = some x := by rw [Stab.list_at hi, hx]
  have g : ∀ j, j < 4 → (d.toList.flatMap V4.cells ++ tl)[i * 4 + j]? = some (x.cell j) := fun j hj => by
    rw [List.getElem?_append_left (by rw [flat4_len, Array.length_toList]; omega)]
    exact flat4_get _ _ _ _ hl hj
  rw [Nat.zero_add]
  exact ⟨h.blk.cell (g 0 (by omega)), h.blk.cell (g 1 (by omega)), h.blk.cell (g 2 (by omega)), h.blk.cell (g 3 (by omega))⟩
theorem Row.free (h : Row Fm W0 W blk t tl d) (i : Nat) : W.frozen? ⟨blk, i, none⟩ = false := h.blk.free i
theorem Row.lt (h : Row Fm W0 W blk t tl d) : blk < W.heap.size := h.blk.lt
theorem Row.later (h : Row Fm W0 W blk t tl d) (hb : Below W.heap.size W W') : Row Fm W0 W' blk t tl d :=
  ⟨h.keeps.trans (Keeps.of_below (X := fun _ => False) hb) (fun _ _ h => h.elim), h.blk.later hb, h.one⟩
theorem Row.drew (h : Row Fm W0 W blk t tl d) : Row Fm W0 W.drew blk t tl d := ⟨h.keeps.drew, h.blk, h.one⟩
theorem Row.drewN (h : Row Fm W0 W blk t tl d) (n : Nat) : Row Fm W0 (W.drewN n) blk t tl d := ⟨h.keeps.drewN n, h.blk, h.one⟩
/-- Four stores in a run. -/
theorem Row.set4 (h : Row Fm W0 W blk t tl d) {i : Nat} (hi : i < d.size) (y : V4) (h1 : Fm y) {off : Nat} (ho : off = 0) :
    Row Fm W0 ((((W.setCell ⟨blk, off + i * 4, none⟩ y.e0).setCell ⟨blk, off + i * 4 + 1, none⟩ y.e1).setCell ⟨blk, off + i * 4 + 2, none⟩ y.e2).setCell ⟨blk, off + i * 4 + 3, none⟩ y.e3) blk t tl (d.setIfInBounds i y) := by
  subst ho
  refine ⟨(((h.keeps.setCell (p := ⟨blk, 0 + i * 4, none⟩) (fun _ => rfl) _).setCell (p := ⟨blk, 0 + i * 4 + 1, none⟩) (fun _ => rfl) _).setCell (p := ⟨blk, 0 + i * 4 + 2, none⟩) (fun _ => rfl) _).setCell (p := ⟨blk, 0 + i * 4 + 3, none⟩) (fun _ => rfl) _, ?_, fun k hk => ?_⟩
  rotate_left
  · have hk' : k < d.size := by simpa using hk
    rw [getElem!_pos _ k hk, Array.getElem_setIfInBounds hk']
    split
    · exact h1
    · rw [← getElem!_pos d k hk']; exact h.one k hk'
  have hb := (((h.blk.set_ (0 + i * 4) y.e0).set_ (0 + i * 4 + 1) y.e1).set_ (0 + i * 4 + 2) y.e2).set_ (0 + i * 4 + 3) y.e3
  have hl : (d.toList.flatMap V4.cells).length = d.size * 4 := by rw [flat4_len, Array.length_toList]
  rw [Nat.zero_add, List.set_append, if_pos (by omega), List.set_append, if_pos (by simp only [List.length_set]; omega), List.set_append, if_pos (by simp only [List.length_set]; omega), List.set_append, if_pos (by simp only [List.length_set]; omega),
    flat4_set _ _ _ (by simpa using hi)] at hb
  rw [Array.toList_setIfInBounds]
  rw [Nat.zero_add]
  exact hb
/-- An exchange. -/
theorem Row.swap (h : Row Fm W0 W blk t tl d) {i j : Nat} (hi : i < d.size) (hj : j < d.size) {x y : V4} (hx : d[i]! = x) (hy : d[j]! = y) {off : Nat} (ho : off = 0) :
    Row Fm W0 ((((((((W.setCell ⟨blk, off + i * 4, none⟩ y.e0).setCell ⟨blk, off + i * 4 + 1, none⟩ y.e1).setCell ⟨blk, off + i * 4 + 2, none⟩ y.e2).setCell ⟨blk, off + i * 4 + 3, none⟩ y.e3).setCell ⟨blk, off + j * 4, none⟩ x.e0).setCell ⟨blk, off + j * 4 + 1, none⟩ x.e1).setCell ⟨blk, off + j * 4 + 2, none⟩ x.e2).setCell ⟨blk, off + j * 4 + 3, none⟩ x.e3) blk t tl (swp d i j) := by
  have := (h.set4 hi y (hy ▸ h.one j hj) ho).set4 (i := j) (by simpa using hj) x (hx ▸ h.one i hi) ho
  unfold swp
  rw [hx, hy]
  exact this
/-- A row of the call's own. -/
theorem Row.of_own {base n cap : Nat} {xs : List Value} (h : W.ownsRow base t 4 (.slice (some ⟨blk, 0, none⟩) n cap) n xs) (hx : xs = d.toList.flatMap V4.cells) (h1o : ∀ i, i < d.size → Fm d[i]!) : d.size = n ∧ ∃ tl, Row Fm W W blk t tl d := by
  obtain ⟨h1, h2⟩ := h
  have hn : d.size = n := by rw [hx, flat4_len, Array.length_toList] at h1; omega
  refine ⟨hn, ?_⟩
  rcases h2 with ⟨h2, _⟩ | ⟨g, c, cur, e1, _, e3, _, _, _, e7⟩
  · simp at h2
  · simp only [Value.slice.injEq, Option.some.injEq, Addr.mk.injEq, true_and, and_true] at e1
    obtain ⟨rfl, rfl⟩ := e1
    refine ⟨cur.toList.drop (n * 4), Keeps.refl _ _, ?_, h1o⟩
    unfold Blk
    rw [e3, ← hx, ← e7, List.take_append_drop]
theorem Row.own (h : Row Fm W0 W blk t tl d) {base n cap : Nat} (hn : d.size = n) (hb : base ≤ blk) (hc : n ≤ cap) (hm : cap ≤ maxLen) (hl : n * 4 + tl.length = cap * 4) :
    W.ownsRow base t 4 (.slice (some ⟨blk, 0, none⟩) n cap) n (d.toList.flatMap V4.cells) := by
  have hf : (d.toList.flatMap V4.cells).length = n * 4 := by rw [flat4_len, Array.length_toList, hn]
  refine ⟨hf, .inr ⟨blk, cap, _, rfl, hb, h.blk, hc, hm, by simp only [List.size_toArray, List.length_append]; omega, ?_⟩⟩
  rw [List.toList_toArray, List.take_append_of_le_length (by omega), List.take_of_length_le (by omega)]
end
end Go.Proofs.YtdljlpogljjldaaDoor
