/- Norm in plain words: applied again it changes nothing; labels sorted; the same variables. No program in sight. -/
import Derived.Test.YtjofndhbpglfgaaDoorSame
import Derived.Test.YtjofndhbpglfgaaDoorUOccL
namespace Go.Proofs.YtjofndhbpglfgaaDoor
open Go.RowKit Go.Shelf Go.Sort Stab

theorem nmerge_perm {α : Type} {less : α → α → Bool} : ∀ (n : Nat) (l r : List α), l.length + r.length = n → (Stab.merge less l r).Perm (l ++ r)
  | _, [], r, _ => by rw [Stab.merge_nil_left]; exact List.Perm.refl _
  | _, x :: l, [], _ => by rw [Stab.merge_nil_right, List.append_nil]
  | 0, x :: l, y :: r, h => by simp at h
  | n + 1, x :: l, y :: r, h => by
    simp only [List.length_cons] at h
    rw [Stab.merge_cons]
    split
    · exact ((nmerge_perm n (x :: l) r (by simp only [List.length_cons]; omega)).cons y).trans List.perm_middle.symm
    · exact (nmerge_perm n l (y :: r) (by simp only [List.length_cons]; omega)).cons x
theorem nisort_perm {α : Type} {less : α → α → Bool} : ∀ l : List α, (Stab.isort less l).Perm l
  | [] => List.Perm.refl _
  | x :: l => (nmerge_perm _ [x] _ rfl).trans ((nisort_perm l).cons x)
theorem nisort_id {α : Type} {less : α → α → Bool} : ∀ l : List α, Stab.Sorted less l → Stab.isort less l = l
  | [], _ => rfl
  | [x], _ => by show Stab.merge less [x] [] = _; rw [Stab.merge_nil_right]
  | x :: y :: l, h => by
    have g := List.pairwise_cons.1 h
    show Stab.merge less [x] (Stab.isort less (y :: l)) = _
    rw [nisort_id (y :: l) g.2, Stab.merge_cons, if_neg (by rw [g.1 y List.mem_cons_self]; simp), Stab.merge_nil_left]

def gtS (a b : ByteArray) : Bool := !Op.bytesLess a.toList b.toList && !(a.toList == b.toList)
theorem gtS_of {a b : ByteArray} (h : sLt b a = false) : gtS a b = false := by
  unfold gtS
  cases h1 : Op.bytesLess a.toList b.toList
  · have h2 : ¬ a.toList < b.toList := by rw [← sLt_iff]; unfold sLt; rw [h1]; simp
    have h3 : ¬ b.toList < a.toList := by rw [← sLt_iff, h]; simp
    have he : a.toList = b.toList := List.le_antisymm (List.not_lt.1 h3) (List.not_lt.1 h2)
    rw [he]; simp
  · rfl
/-- Whether a type's own label comes ahead of the next. -/
def srtHead (k : Int) (n : ByteArray) : List Ty → Bool
  | [_, r] => !(k == 5 && r.kind == 5 && gtS n r.name)
  | _ => true
mutual
def srtB : Ty → Bool
  | .mk k n _ l => srtHead k n l && !srtsN l
def srtsN : List Ty → Bool
  | [] => false
  | a :: r => !srtB a || srtsN r
end
theorem srtsN_any : ∀ l : List Ty, srtsN l = l.any fun a => !srtB a
  | [] => by rw [srtsN]; rfl
  | a :: r => by rw [srtsN, srtsN_any r]; rfl
theorem srtB_eq (t : Ty) : srtB t = (srtHead t.kind t.name t.args && !(t.args.any fun a => !srtB a)) := by
  cases t with
  | mk k n v l => rw [srtB, srtsN_any]; rfl

def foldX (L : List (ByteArray × Ty)) (e : Ty) : Ty := L.foldr (fun x out => extT x.1 x.2 out) e
def Good (a : Ty) : Prop := normP a = a ∧ a.Nok ∧ srtB a = true
def sumN (L : List (ByteArray × Ty)) : Nat := (L.map fun x => nodes x.2 + 1).sum
theorem sumN_perm {L M : List (ByteArray × Ty)} (h : L.Perm M) : sumN L = sumN M := by
  induction h with
  | nil => rfl
  | cons x _ ih => simp only [sumN, List.map_cons, List.sum_cons] at *; omega
  | swap x y l => simp only [sumN, List.map_cons, List.sum_cons]; omega
  | trans _ _ h1 h2 => exact h1.trans h2
theorem rowP_fold {e : Ty} (hk : e.kind ≠ 5) (he : ∀ a ∈ e.args, normP a = a) : ∀ L : List (ByteArray × Ty), (∀ x ∈ L, normP x.2 = x.2) → rowP (foldX L e) = (L, e)
  | [], _ => by
    show rowP e = _
    rw [rowP_not hk]
    have : e.args.map normP = e.args := by
      rw [List.map_congr_left (g := id) (fun a ha => he a ha), List.map_id]
    rw [this]
    cases e; rfl
  | x :: L, h => by
    show rowP (extT x.1 x.2 (foldX L e)) = _
    rw [rowP_ext (t := extT x.1 x.2 (foldX L e)) rfl rfl, rowP_fold hk he L (fun y hy => h y (List.mem_cons_of_mem _ hy)), h x List.mem_cons_self]
    rfl
theorem nodes_fold (e : Ty) : ∀ L : List (ByteArray × Ty), nodes (foldX L e) = nodes e + sumN L
  | [] => rfl
  | x :: L => by
    have h1 := nodes_eq (extT x.1 x.2 (foldX L e))
    have h2 : nodess (extT x.1 x.2 (foldX L e)).args = nodes x.2 + (nodes (foldX L e) + 0) := rfl
    have h3 : sumN (x :: L) = nodes x.2 + 1 + sumN L := by simp [sumN]
    have h4 := nodes_fold e L
    show nodes (extT x.1 x.2 (foldX L e)) = _
    omega
theorem free_fold (e : Ty) (v : Int) : ∀ L : List (ByteArray × Ty), v ∈ freeP (foldX L e) ↔ v ∈ freeP e ∨ ∃ x ∈ L, v ∈ freeP x.2
  | [] => by simp [foldX]
  | x :: L => by
    have h := freeP_args (t := extT x.1 x.2 (foldX L e)) (show (5 : Int) ≠ 0 by decide) (v := v)
    have ih := free_fold e v L
    show v ∈ freeP (extT x.1 x.2 (foldX L e)) ↔ _
    rw [h]
    show (∃ a ∈ [x.2, foldX L e], v ∈ freeP a) ↔ _
    simp only [List.mem_cons, List.not_mem_nil, or_false, exists_eq_or_imp, exists_eq_left, ih]
    constructor
    · rintro (h | h | h)
      · exact .inr (.inl h)
      · exact .inl h
      · exact .inr (.inr h)
    · rintro (h | h | h)
      · exact .inr (.inl h)
      · exact .inl h
      · exact .inr (.inr h)
theorem nok_not {e : Ty} (hk : e.kind ≠ 5) (h : ∀ a ∈ e.args, a.Nok) : e.Nok := by
  cases e with
  | mk k n v l => exact .mk k n v l (fun h5 => absurd h5 hk) h
theorem nok_fold {e : Ty} (hk : e.kind ≠ 5) (he : ∀ a ∈ e.args, a.Nok) : ∀ L : List (ByteArray × Ty), (∀ x ∈ L, x.2.Nok) → (foldX L e).Nok
  | [], _ => nok_not hk he
  | x :: L, h => .mk 5 x.1 0 _ (fun _ => rfl) fun a ha => by
    have ih := nok_fold hk he L (fun y hy => h y (List.mem_cons_of_mem _ hy))
    rcases List.mem_cons.1 ha with rfl | ha
    · exact h x List.mem_cons_self
    · rw [List.mem_singleton.1 ha]; exact ih
theorem srtHead_not {k : Int} (hk : k ≠ 5) (n : ByteArray) (l : List Ty) : srtHead k n l = true := by
  have h : (k == 5) = false := by rw [beq_eq_false_iff_ne]; exact hk
  unfold srtHead
  split
  · rw [h]; rfl
  · rfl
theorem srt_fold {e : Ty} (hk : e.kind ≠ 5) (he : ∀ a ∈ e.args, srtB a = true) : ∀ L : List (ByteArray × Ty), Stab.Sorted ltL L → (∀ x ∈ L, srtB x.2 = true) → srtB (foldX L e) = true
  | [], _, _ => by
    show srtB e = true
    rw [srtB_eq, srtHead_not hk, Bool.true_and, Bool.not_eq_true', List.any_eq_false]
    intro a ha
    rw [he a ha]; simp
  | x :: L, hs, h => by
    have g := List.pairwise_cons.1 hs
    have ih := srt_fold hk he L g.2 (fun y hy => h y (List.mem_cons_of_mem _ hy))
    have h1 := h x List.mem_cons_self
    show srtB (extT x.1 x.2 (foldX L e)) = true
    rw [srtB_eq]
    show (!((5 : Int) == 5 && (foldX L e).kind == 5 && gtS x.1 (foldX L e).name) && !([x.2, foldX L e].any fun a => !srtB a)) = true
    have h2 : ([x.2, foldX L e].any fun a => !srtB a) = false := by simp [h1, ih]
    rw [h2]
    cases L with
    | nil =>
      have h : ((foldX [] e).kind == 5) = false := by rw [beq_eq_false_iff_ne]; exact hk
      rw [h]; rfl
    | cons y L =>
      have h3 : gtS x.1 (foldX (y :: L) e).name = false := gtS_of (g.1 y List.mem_cons_self)
      rw [h3]; simp

structure RowOk (t : Ty) : Prop where
  k : (rowP t).2.kind ≠ 5
  g : ∀ x ∈ (rowP t).1, Good x.2
  e : ∀ a ∈ (rowP t).2.args, Good a
  n : nodes t = nodes (rowP t).2 + sumN (rowP t).1
  f : ∀ v, v ∈ freeP t ↔ v ∈ freeP (rowP t).2 ∨ ∃ x ∈ (rowP t).1, v ∈ freeP x.2
theorem weakL : Weak ltL := ⟨fun _ _ _ => sLt_weak.tr _ _ _, fun _ _ _ => sLt_weak.nt _ _ _, fun _ => sLt_weak.ir _⟩
theorem RowOk.good {t : Ty} (h : RowOk t) : Good (normP t) ∧ nodes (normP t) = nodes t ∧ ∀ v, v ∈ freeP (normP t) ↔ v ∈ freeP t := by
  have e : normP t = foldX (Stab.isort ltL (rowP t).1) (rowP t).2 := rfl
  have hm : ∀ x ∈ Stab.isort ltL (rowP t).1, Good x.2 := fun x hx => h.g x ((mem_isort _).1 hx)
  have hs := isort_sorted weakL (rowP t).1
  refine ⟨⟨?_, ?_, ?_⟩, ?_, fun v => ?_⟩
  · rw [e]
    have hr := rowP_fold h.k (fun a ha => (h.e a ha).1) _ (fun x hx => (hm x hx).1)
    show fin (rowP _) = _
    rw [hr]
    show foldX (Stab.isort ltL _) _ = _
    rw [nisort_id _ hs]
  · rw [e]; exact nok_fold h.k (fun a ha => (h.e a ha).2.1) _ (fun x hx => (hm x hx).2.1)
  · rw [e]; exact srt_fold h.k (fun a ha => (h.e a ha).2.2) _ hs (fun x hx => (hm x hx).2.2)
  · rw [e, nodes_fold, sumN_perm (nisort_perm _), h.n]
  · rw [e, free_fold, h.f]
    simp only [mem_isort]
theorem nodess_map : ∀ l : List Ty, (∀ a ∈ l, nodes (normP a) = nodes a) → nodess (l.map normP) = nodess l
  | [], _ => rfl
  | a :: r, h => by
    rw [List.map_cons, nodess, nodess, h a List.mem_cons_self, nodess_map r fun b hb => h b (List.mem_cons_of_mem _ hb)]
theorem row_ok : ∀ (n : Nat) (t : Ty), nodes t = n → t.Nok → RowOk t := by
  intro n
  induction n using Nat.strongRecOn with
  | _ n ih =>
  intro t hn ht
  have hne := nodes_eq t
  have ihm : ∀ a ∈ t.args, RowOk a := fun a ha => ih (nodes a) (by have := nodess_mem t.args a ha; omega) a rfl (ht.arg ha)
  by_cases hk : t.kind = 5
  · obtain ⟨a, r, hl⟩ := ht.two hk
    have ha := ihm a (by rw [hl]; simp)
    have hr := ihm r (by rw [hl]; simp)
    have e := rowP_ext hk hl
    have ga := ha.good
    refine ⟨by rw [e]; exact hr.k, fun x hx => ?_, by rw [e]; exact hr.e, ?_, fun v => ?_⟩
    · rw [e] at hx
      rcases List.mem_cons.1 hx with rfl | hx
      · exact ga.1
      · exact hr.g x hx
    · have h1 := hr.n
      have h3 : sumN ((t.name, normP a) :: (rowP r).1) = nodes (normP a) + 1 + sumN (rowP r).1 := by simp [sumN]
      have h4 := ga.2.1
      rw [e]
      show nodes t = nodes (rowP r).2 + sumN ((t.name, normP a) :: (rowP r).1)
      rw [hne, hl, h3]
      show nodes a + (nodes r + 0) + 1 = _
      omega
    · rw [e, freeP_args (by rw [hk]; decide), hl]
      simp only [List.mem_cons, List.not_mem_nil, or_false, exists_eq_or_imp, exists_eq_left, hr.f, ga.2.2]
      constructor
      · rintro (h | h | h)
        · exact .inr (.inl h)
        · exact .inl h
        · exact .inr (.inr h)
      · rintro (h | h | h)
        · exact .inr (.inl h)
        · exact .inl h
        · exact .inr (.inr h)
  · have e := rowP_not hk
    refine ⟨by rw [e]; exact hk, by rw [e]; intro x hx; simp at hx, fun a ha => ?_, ?_, fun v => ?_⟩
    · rw [e] at ha
      obtain ⟨b, hb, rfl⟩ := List.mem_map.1 (show a ∈ t.args.map normP from ha)
      exact (ihm b hb).good.1
    · rw [e, hne]
      have := nodess_map t.args fun a ha => (ihm a ha).good.2.1
      show _ = nodess (t.args.map normP) + 1 + 0
      omega
    · rw [e]
      simp only [List.not_mem_nil, false_and, exists_false, or_false]
      by_cases h0 : t.kind = 0
      · rw [freeP_var h0, freeP_var (t := .mk t.kind t.name t.var (t.args.map normP)) h0]; rfl
      · rw [freeP_args h0, freeP_args (t := .mk t.kind t.name t.var (t.args.map normP)) h0]
        constructor
        · rintro ⟨a, ha, hv⟩
          exact ⟨normP a, List.mem_map.2 ⟨a, ha, rfl⟩, ((ihm a ha).good.2.2 v).2 hv⟩
        · rintro ⟨b, hb, hv⟩
          obtain ⟨a, ha, rfl⟩ := List.mem_map.1 (show b ∈ t.args.map normP from hb)
          exact ⟨a, ha, ((ihm a ha).good.2.2 v).1 hv⟩
/-! ### Free variables: none twice -/
theorem addV_nodup {acc : List Int} (h : acc.Nodup) (x : Int) : (addV acc x).Nodup := by
  unfold addV
  split
  · exact h
  · rename_i hx
    have hn : x ∉ acc := fun hm => hx (List.any_eq_true.2 ⟨x, hm, by simp⟩)
    rw [List.nodup_append]
    refine ⟨h, by simp, fun a ha b hb => ?_⟩
    rw [List.mem_singleton.1 hb]
    rintro rfl
    exact hn ha
theorem foldl_nodup : ∀ (l acc : List Int), acc.Nodup → (l.foldl addV acc).Nodup
  | [], _, h => h
  | x :: l, _, h => foldl_nodup l _ (addV_nodup h x)
theorem frees_nodup : ∀ (l : List Ty) (acc : List Int), acc.Nodup → (frees l acc).Nodup
  | [], _, h => by rw [frees]; exact h
  | a :: r, _, h => by rw [frees]; exact frees_nodup r _ (foldl_nodup _ _ h)
theorem freeP_nodup (t : Ty) : (freeP t).Nodup := by
  cases t with
  | mk k n v l =>
    rw [freeP]
    split
    · simp
    · exact frees_nodup l [] List.nodup_nil
/-- What the law asks. -/
theorem norm_law {a : Ty} (h : a.Nok) : Good (normP a) ∧ nodes (normP a) = nodes a ∧ (freeP (normP a)).length = (freeP a).length := by
  obtain ⟨h1, h2, h3⟩ := (row_ok _ a rfl h).good
  exact ⟨h1, h2, ((List.perm_ext_iff_of_nodup (freeP_nodup _) (freeP_nodup _)).2 h3).length_eq⟩
theorem Okt.nok : ∀ (n : Nat) (t : Ty), nodes t = n → Okt t → t.Nok := by
  intro n
  induction n using Nat.strongRecOn with
  | _ n ih =>
  intro t hn ht
  have hne := nodes_eq t
  have hp := ht.parts
  cases t with
  | mk k m v l => exact .mk k m v l hp.1 fun a ha => ih (nodes a) (by have := nodess_mem l a ha; have : nodess (Ty.args (.mk k m v l)) = nodess l := rfl; omega) a rfl (hp.2 a ha)
end Go.Proofs.YtjofndhbpglfgaaDoor
