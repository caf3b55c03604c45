/- Rows up to the order of different labels, by the lists of the entries of each label. No program in sight. -/
import Derived.Test.YtjofndhbpglfgaaDoorURowL
import Derived.Test.YtjofndhbpglfgaaDoorUAppD
namespace Go.Proofs.YtjofndhbpglfgaaDoor
open Go.RowKit Go.Shelf Go.Sort Stab

def fl (n : ByteArray) (L : List (ByteArray × Ty)) : List (ByteArray × Ty) := L.filter fun x => decide (x.1 = n)
theorem fl_cons (n : ByteArray) (x : ByteArray × Ty) (L : List (ByteArray × Ty)) : fl n (x :: L) = if x.1 = n then x :: fl n L else fl n L := by
  unfold fl
  rw [List.filter_cons]
  by_cases h : x.1 = n
  · simp [h]
  · simp [h]
theorem fl_mem {n : ByteArray} {x : ByteArray × Ty} {L : List (ByteArray × Ty)} : x ∈ fl n L ↔ x ∈ L ∧ x.1 = n := by
  unfold fl
  rw [List.mem_filter]
  simp
theorem sLt_irr (a : ByteArray) : sLt a a = false := sLt_weak.ir a
theorem fl_ins (n : ByteArray) (x : ByteArray × Ty) : ∀ s : List (ByteArray × Ty), fl n (Stab.merge ltL [x] s) = fl n (x :: s)
  | [] => by rw [Stab.merge_nil_right]
  | y :: s => by
    rw [Stab.merge_cons]
    split
    · rename_i h
      have hne : y.1 ≠ x.1 := fun e => by
        have h2 : sLt y.1 x.1 = true := h
        rw [e, sLt_irr] at h2; cases h2
      rw [fl_cons, fl_ins n x s, fl_cons, fl_cons, fl_cons]
      by_cases h1 : x.1 = n
      · have h2 : ¬ y.1 = n := fun e => hne (e.trans h1.symm)
        simp [h1, h2]
      · by_cases h2 : y.1 = n <;> simp [h1, h2]
    · rw [Stab.merge_nil_left]
theorem fl_isort (n : ByteArray) : ∀ L : List (ByteArray × Ty), fl n (Stab.isort ltL L) = fl n L
  | [] => rfl
  | x :: L => by
    show fl n (Stab.merge ltL [x] (Stab.isort ltL L)) = _
    rw [fl_ins, fl_cons, fl_cons, fl_isort n L]
theorem sorted_fl : ∀ (A B : List (ByteArray × Ty)), Stab.Sorted ltL A → Stab.Sorted ltL B → (∀ n, fl n A = fl n B) → A = B
  | [], [], _, _, _ => rfl
  | [], y :: B, _, _, h => by have := h y.1; rw [fl_cons, if_pos rfl] at this; cases this
  | x :: A, [], _, _, h => by have := h x.1; rw [fl_cons, if_pos rfl] at this; cases this
  | x :: A, y :: B, hA, hB, h => by
    have gA := List.pairwise_cons.1 hA
    have gB := List.pairwise_cons.1 hB
    have hxB : x ∈ y :: B := (fl_mem.1 (by rw [← h x.1, fl_cons, if_pos rfl]; exact List.mem_cons_self : x ∈ fl x.1 (y :: B))).1
    have hyA : y ∈ x :: A := (fl_mem.1 (by rw [h y.1, fl_cons, if_pos rfl]; exact List.mem_cons_self : y ∈ fl y.1 (x :: A))).1
    have h1 : sLt x.1 y.1 = false := by
      rcases List.mem_cons.1 hxB with e | hx
      · rw [e]; exact sLt_irr _
      · exact gB.1 x hx
    have h2 : sLt y.1 x.1 = false := by
      rcases List.mem_cons.1 hyA with e | hy
      · rw [e]; exact sLt_irr _
      · exact gA.1 y hy
    have hn : x.1 = y.1 := sLt_anti h2 h1
    have hx := h x.1
    rw [fl_cons, fl_cons, if_pos rfl, if_pos hn.symm] at hx
    obtain ⟨e, _⟩ := List.cons.inj hx
    subst e
    congr 1
    refine sorted_fl A B gA.2 gB.2 fun n => ?_
    have hn2 := h n
    rw [fl_cons, fl_cons] at hn2
    by_cases hx1 : x.1 = n
    · rw [if_pos hx1, if_pos hx1] at hn2; exact (List.cons.inj hn2).2
    · rw [if_neg hx1, if_neg hx1] at hn2; exact hn2
theorem isort_fl {L M : List (ByteArray × Ty)} : Stab.isort ltL L = Stab.isort ltL M ↔ ∀ n, fl n L = fl n M := by
  constructor
  · intro h n
    rw [← fl_isort n L, h, fl_isort]
  · intro h
    exact sorted_fl _ _ (Stab.isort_sorted weakL L) (Stab.isort_sorted weakL M) fun n => by rw [fl_isort, fl_isort, h n]
theorem foldX_inj {e e' : Ty} (he : e.kind ≠ 5) (he' : e'.kind ≠ 5) : ∀ {L M : List (ByteArray × Ty)}, foldX L e = foldX M e' → L = M ∧ e = e'
  | [], [], h => ⟨rfl, h⟩
  | [], y :: M, h => by
    have h2 : e.kind = 5 := by
      have h3 : e = extT y.1 y.2 (foldX M e') := h
      rw [h3]; rfl
    exact absurd h2 he
  | x :: L, [], h => by
    have h2 : e'.kind = 5 := by
      have h3 : extT x.1 x.2 (foldX L e) = e' := h
      rw [← h3]; rfl
    exact absurd h2 he'
  | x :: L, y :: M, h => by
    have h3 : extT x.1 x.2 (foldX L e) = extT y.1 y.2 (foldX M e') := h
    unfold extT at h3
    simp only [Ty.mk.injEq, List.cons.injEq, and_true, true_and] at h3
    obtain ⟨h4, h5, h6⟩ := h3
    obtain ⟨h7, h8⟩ := foldX_inj he he' h6
    exact ⟨by rw [h7, Prod.ext h4 h5], h8⟩
theorem row_end {t : Ty} (h : t.Nok) : (rowP t).2.kind ≠ 5 := (row_ok _ t rfl h).k
theorem eqv_iff {a b : Ty} (ha : a.Nok) (hb : b.Nok) : normP a = normP b ↔ (∀ n, fl n (rowP a).1 = fl n (rowP b).1) ∧ (rowP a).2 = (rowP b).2 := by
  have e1 : normP a = foldX (Stab.isort ltL (rowP a).1) (rowP a).2 := rfl
  have e2 : normP b = foldX (Stab.isort ltL (rowP b).1) (rowP b).2 := rfl
  rw [e1, e2]
  constructor
  · intro h
    obtain ⟨h1, h2⟩ := foldX_inj (row_end ha) (row_end hb) h
    exact ⟨isort_fl.1 h1, h2⟩
  · rintro ⟨h1, h2⟩
    rw [isort_fl.2 h1, h2]
theorem take1_fl {x : ByteArray × Ty} : ∀ {M R : List (ByteArray × Ty)}, fl x.1 M = x :: R → ∃ M', take1 x.1 M = some (x.2, M') ∧ fl x.1 M' = R ∧ ∀ m, m ≠ x.1 → fl m M' = fl m M
  | [], R, h => by cases h
  | y :: M, R, h => by
    rw [fl_cons] at h
    by_cases hy : y.1 = x.1
    · rw [if_pos hy] at h
      obtain ⟨e, h2⟩ := List.cons.inj h
      subst e
      exact ⟨M, by rw [take1, if_pos rfl], h2, fun m hm => by rw [fl_cons, if_neg (fun e => hm e.symm)]⟩
    · rw [if_neg hy] at h
      obtain ⟨M', h1, h2, h3⟩ := take1_fl h
      refine ⟨y :: M', by rw [take1, if_neg hy, h1], by rw [fl_cons, if_neg hy, h2], fun m hm => ?_⟩
      rw [fl_cons, fl_cons, h3 m hm]
/-- The labels of a row that are equal to those of another one with a label in front. -/
theorem fl_take {x : ByteArray × Ty} {L M : List (ByteArray × Ty)} (h : ∀ n, fl n (x :: L) = fl n M) : ∃ M', take1 x.1 M = some (x.2, M') ∧ ∀ n, fl n L = fl n M' := by
  have h1 := h x.1
  rw [fl_cons, if_pos rfl] at h1
  obtain ⟨M', h2, h3, h4⟩ := take1_fl h1.symm
  refine ⟨M', h2, fun n => ?_⟩
  by_cases hn : n = x.1
  · rw [hn, h3]
  · rw [h4 n hn, ← h n, fl_cons, if_neg (fun e => hn e.symm)]
end Go.Proofs.YtjofndhbpglfgaaDoor
