/- Norm in plain words: applied again it changes nothing; labels sorted; the same variables. No program in sight. The type of whole numbers. No conditions. UnifyRows, in plain words: rows whose types are variables or one constant. No program in sight. -/
import Derived.Test.YthchnabhbpdfgaaDoorSame
import Derived.Test.YthchnabhbpdfgaaDoorUOccL
import Derived.Laws.Cover1
section
namespace Go.Proofs.YthchnabhbpdfgaaDoor
open Go.RowKit Go.Shelf Go.Sort Stab

theorem nmerge_perm {α : Type} {less : α → α → Bool} : ∀ (n : Nat) (l r : List α), l.length + r.length = n → (Stab.merge less l r).Perm (l ++ r)
  | _, [], r, _ => by rw [Stab.merge_nil_left]; exact List.Perm.refl _
  | _, x :: l, [], _ => by rw [Stab.merge_nil_right, List.append_nil]
  | 0, x :: l, y :: r, h => by simp at h
  | n + 1, x :: l, y :: r, h => by
    simp only [List.length_cons] at h
    rw [Stab.merge_cons]
    split
    · exact ((nmerge_perm n (x :: l) r (by simp only [List.length_cons]; omega)).cons y).trans List.perm_middle.symm
    · exact (nmerge_perm n l (y :: r) (by simp only [List.length_cons]; omega)).cons x
theorem nisort_perm {α : Type} {less : α → α → Bool} : ∀ l : List α, (Stab.isort less l).Perm l
  | [] => List.Perm.refl _
  | x :: l => (nmerge_perm _ [x] _ rfl).trans ((nisort_perm l).cons x)
theorem nisort_id {α : Type} {less : α → α → Bool} : ∀ l : List α, Stab.Sorted less l → Stab.isort less l = l
  | [], _ => rfl
  | [x], _ => by show Stab.merge less [x] [] = _; rw [Stab.merge_nil_right]
  | x :: y :: l, h => by
    have g := List.pairwise_cons.1 h
    show Stab.merge less [x] (Stab.isort less (y :: l)) = _
    rw [nisort_id (y :: l) g.2, Stab.merge_cons, if_neg (by rw [g.1 y List.mem_cons_self]; simp), Stab.merge_nil_left]

def gtS (a b : ByteArray) : Bool := !Op.bytesLess a.toList b.toList && !(a.toList == b.toList)
theorem gtS_of {a b : ByteArray} (h : sLt b a = false) : gtS a b = false := by
  unfold gtS
  cases h1 : Op.bytesLess a.toList b.toList
  · have h2 : ¬ a.toList < b.toList := by rw [← sLt_iff]; unfold sLt; rw [h1]; simp
    have h3 : ¬ b.toList < a.toList := by rw [← sLt_iff, h]; simp
    have he : a.toList = b.toList := List.le_antisymm (List.not_lt.1 h3) (List.not_lt.1 h2)
    rw [he]; simp
  · rfl
/-- Whether a type's own label comes ahead of the next. -/
def srtHead (k : Int) (n : ByteArray) : List Ty → Bool
  | [_, r] => !(k == 5 && r.kind == 5 && gtS n r.name)
  | _ => true
mutual
def srtB : Ty → Bool
  | .mk k n _ l => srtHead k n l && !srtsN l
def srtsN : List Ty → Bool
  | [] => false
  | a :: r => !srtB a || srtsN r
end
theorem srtsN_any : ∀ l : List Ty, srtsN l = l.any fun a => !srtB a
  | [] => by rw [srtsN]; rfl
  | a :: r => by rw [srtsN, srtsN_any r]; rfl
theorem srtB_eq (t : Ty) : srtB t = (srtHead t.kind t.name t.args && !(t.args.any fun a => !srtB a)) := by
  cases t with
  | mk k n v l => rw [srtB, srtsN_any]; rfl

def foldX (L : List (ByteArray × Ty)) (e : Ty) : Ty := L.foldr (fun x out => extT x.1 x.2 out) e
def Good (a : Ty) : Prop := normP a = a ∧ a.Nok ∧ srtB a = true
def sumN (L : List (ByteArray × Ty)) : Nat := (L.map fun x => nodes x.2 + 1).sum
theorem sumN_perm {L M : List (ByteArray × Ty)} (h : L.Perm M) : sumN L = sumN M := by
  induction h with
  | nil => rfl
  | cons x _ ih => simp only [sumN, List.map_cons, List.sum_cons] at *; omega
  | swap x y l => simp only [sumN, List.map_cons, List.sum_cons]; omega
  | trans _ _ h1 h2 => exact h1.trans h2
theorem rowP_fold {e : Ty} (hk : e.kind ≠ 5) (he : ∀ a ∈ e.args, normP a = a) : ∀ L : List (ByteArray × Ty), (∀ x ∈ L, normP x.2 = x.2) → rowP (foldX L e) = (L, e)
  | [], _ => by
    show rowP e = _
    rw [rowP_not hk]
    have : e.args.map normP = e.args := by
      rw [List.map_congr_left (g := id) (fun a ha => he a ha), List.map_id]
    rw [this]
    cases e; rfl
  | x :: L, h => by
    show rowP (extT x.1 x.2 (foldX L e)) = _
    rw [rowP_ext (t := extT x.1 x.2 (foldX L e)) rfl rfl, rowP_fold hk he L (fun y hy => h y (List.mem_cons_of_mem _ hy)), h x List.mem_cons_self]
    rfl
theorem nodes_fold (e : Ty) : ∀ L : List (ByteArray × Ty), nodes (foldX L e) = nodes e + sumN L
  | [] => rfl
  | x :: L => by
    have h1 := nodes_eq (extT x.1 x.2 (foldX L e))
    have h2 : nodess (extT x.1 x.2 (foldX L e)).args = nodes x.2 + (nodes (foldX L e) + 0) := rfl
    have h3 : sumN (x :: L) = nodes x.2 + 1 + sumN L := by simp [sumN]
    have h4 := nodes_fold e L
    show nodes (extT x.1 x.2 (foldX L e)) = _
    omega
theorem free_fold (e : Ty) (v : Int) : ∀ L : List (ByteArray × Ty), v ∈ freeP (foldX L e) ↔ v ∈ freeP e ∨ ∃ x ∈ L, v ∈ freeP x.2
  | [] => by simp [foldX]
  | x :: L => by
    have h := freeP_args (t := extT x.1 x.2 (foldX L e)) (show (5 : Int) ≠ 0 by decide) (v := v)
    have ih := free_fold e v L
    show v ∈ freeP (extT x.1 x.2 (foldX L e)) ↔ _
    rw [h]
    show (∃ a ∈ [x.2, foldX L e], v ∈ freeP a) ↔ _
    simp only [List.mem_cons, List.not_mem_nil, or_false, exists_eq_or_imp, exists_eq_left, ih]
    constructor
    · rintro (h | h | h)
      · exact .inr (.inl h)
      · exact .inl h
      · exact .inr (.inr h)
    · rintro (h | h | h)
      · exact .inr (.inl h)
      · exact .inl h
      · exact .inr (.inr h)
theorem nok_not {e : Ty} (hk : e.kind ≠ 5) (h : ∀ a ∈ e.args, a.Nok) : e.Nok := by
  cases e with
  | mk k n v l => exact .mk k n v l (fun h5 => absurd h5 hk) h
theorem nok_fold {e : Ty} (hk : e.kind ≠ 5) (he : ∀ a ∈ e.args, a.Nok) : ∀ L : List (ByteArray × Ty), (∀ x ∈ L, x.2.Nok) → (foldX L e).Nok
  | [], _ => nok_not hk he
  | x :: L, h => .mk 5 x.1 0 _ (fun _ => rfl) fun a ha => by
    have ih := nok_fold hk he L (fun y hy => h y (List.mem_cons_of_mem _ hy))
    rcases List.mem_cons.1 ha with rfl | ha
    · exact h x List.mem_cons_self
    · rw [List.mem_singleton.1 ha]; exact ih
theorem srtHead_not {k : Int} (hk : k ≠ 5) (n : ByteArray) (l : List Ty) : srtHead k n l = true := by
  have h : (k == 5) = false := by rw [beq_eq_false_iff_ne]; exact hk
  unfold srtHead
  split
  · rw [h]; rfl
  · rfl
theorem srt_fold {e : Ty} (hk : e.kind ≠ 5) (he : ∀ a ∈ e.args, srtB a = true) : ∀ L : List (ByteArray × Ty), Stab.Sorted ltL L → (∀ x ∈ L, srtB x.2 = true) → srtB (foldX L e) = true
  | [], _, _ => by
    show srtB e = true
    rw [srtB_eq, srtHead_not hk, Bool.true_and, Bool.not_eq_true', List.any_eq_false]
    intro a ha
    rw [he a ha]; simp
  | x :: L, hs, h => by
    have g := List.pairwise_cons.1 hs
    have ih := srt_fold hk he L g.2 (fun y hy => h y (List.mem_cons_of_mem _ hy))
    have h1 := h x List.mem_cons_self
    show srtB (extT x.1 x.2 (foldX L e)) = true
    rw [srtB_eq]
    show (!((5 : Int) == 5 && (foldX L e).kind == 5 && gtS x.1 (foldX L e).name) && !([x.2, foldX L e].any fun a => !srtB a)) = true
    have h2 : ([x.2, foldX L e].any fun a => !srtB a) = false := by simp [h1, ih]
    rw [h2]
    cases L with
    | nil =>
      have h : ((foldX [] e).kind == 5) = false := by rw [beq_eq_false_iff_ne]; exact hk
      rw [h]; rfl
    | cons y L =>
      have h3 : gtS x.1 (foldX (y :: L) e).name = false := gtS_of (g.1 y List.mem_cons_self)
      rw [h3]; simp

structure RowOk (t : Ty) : Prop where
  k : (rowP t).2.kind ≠ 5
  g : ∀ x ∈ (rowP t).1, Good x.2
  e : ∀ a ∈ (rowP t).2.args, Good a
  n : nodes t = nodes (rowP t).2 + sumN (rowP t).1
  f : ∀ v, v ∈ freeP t ↔ v ∈ freeP (rowP t).2 ∨ ∃ x ∈ (rowP t).1, v ∈ freeP x.2
theorem weakL : Weak ltL := ⟨fun _ _ _ => sLt_weak.tr _ _ _, fun _ _ _ => sLt_weak.nt _ _ _, fun _ => sLt_weak.ir _⟩
theorem RowOk.good {t : Ty} (h : RowOk t) : Good (normP t) ∧ nodes (normP t) = nodes t ∧ ∀ v, v ∈ freeP (normP t) ↔ v ∈ freeP t := by
  have e : normP t = foldX (Stab.isort ltL (rowP t).1) (rowP t).2 := rfl
  have hm : ∀ x ∈ Stab.isort ltL (rowP t).1, Good x.2 := fun x hx => h.g x ((mem_isort _).1 hx)
  have hs := isort_sorted weakL (rowP t).1
  refine ⟨⟨?_, ?_, ?_⟩, ?_, fun v => ?_⟩
  · rw [e]
    have hr := rowP_fold h.k (fun a ha => (h.e a ha).1) _ (fun x hx => (hm x hx).1)
    show fin (rowP _) = _
    rw [hr]
    show foldX (Stab.isort ltL _) _ = _
    rw [nisort_id _ hs]
  · rw [e]; exact nok_fold h.k (fun a ha => (h.e a ha).2.1) _ (fun x hx => (hm x hx).2.1)
  · rw [e]; exact srt_fold h.k (fun a ha => (h.e a ha).2.2) _ hs (fun x hx => (hm x hx).2.2)
  · rw [e, nodes_fold, sumN_perm (nisort_perm _), h.n]
  · rw [e, free_fold, h.f]
    simp only [mem_isort]
theorem nodess_map : ∀ l : List Ty, (∀ a ∈ l, nodes (normP a) = nodes a) → nodess (l.map normP) = nodess l
  | [], _ => rfl
  | a :: r, h => by
    rw [List.map_cons, nodess, nodess, h a List.mem_cons_self, nodess_map r fun b hb => h b (List.mem_cons_of_mem _ hb)]
theorem row_ok : ∀ (n : Nat) (t : Ty), nodes t = n → t.Nok → RowOk t := by
  intro n
  induction n using Nat.strongRecOn with
  | _ n ih =>
  intro t hn ht
  have hne := nodes_eq t
  have ihm : ∀ a ∈ t.args, RowOk a := fun a ha => ih (nodes a) (by have := nodess_mem t.args a ha; omega) a rfl (ht.arg ha)
  by_cases hk : t.kind = 5
  · obtain ⟨a, r, hl⟩ := ht.two hk
    have ha := ihm a (by rw [hl]; simp)
    have hr := ihm r (by rw [hl]; simp)
    have e := rowP_ext hk hl
    have ga := ha.good
    refine ⟨by rw [e]; exact hr.k, fun x hx => ?_, by rw [e]; exact hr.e, ?_, fun v => ?_⟩
    · rw [e] at hx
      rcases List.mem_cons.1 hx with rfl | hx
      · exact ga.1
      · exact hr.g x hx
    · have h1 := hr.n
      have h3 : sumN ((t.name, normP a) :: (rowP r).1) = nodes (normP a) + 1 + sumN (rowP r).1 := by simp [sumN]
      have h4 := ga.2.1
      rw [e]
      show nodes t = nodes (rowP r).2 + sumN ((t.name, normP a) :: (rowP r).1)
      rw [hne, hl, h3]
      show nodes a + (nodes r + 0) + 1 = _
      omega
    · rw [e, freeP_args (by rw [hk]; decide), hl]
      simp only [List.mem_cons, List.not_mem_nil, or_false, exists_eq_or_imp, exists_eq_left, hr.f, ga.2.2]
      constructor
      · rintro (h | h | h)
        · exact .inr (.inl h)
        · exact .inl h
        · exact .inr (.inr h)
      · rintro (h | h | h)
        · exact .inr (.inl h)
        · exact .inl h
        · exact .inr (.inr h)
  · have e := rowP_not hk
    refine ⟨by rw [e]; exact hk, by rw [e]; intro x hx; simp at hx, fun a ha => ?_, ?_, fun v => ?_⟩
    · rw [e] at ha
      obtain ⟨b, hb, rfl⟩ := List.mem_map.1 (show a ∈ t.args.map normP from ha)
      exact (ihm b hb).good.1
    · rw [e, hne]
      have := nodess_map t.args fun a ha => (ihm a ha).good.2.1
      show _ = nodess (t.args.map normP) + 1 + 0
      omega
    · rw [e]
      simp only [List.not_mem_nil, false_and, exists_false, or_false]
      by_cases h0 : t.kind = 0
      · rw [freeP_var h0, freeP_var (t := .mk t.kind t.name t.var (t.args.map normP)) h0]; rfl
      · rw [freeP_args h0, freeP_args (t := .mk t.kind t.name t.var (t.args.map normP)) h0]
        constructor
        · rintro ⟨a, ha, hv⟩
          exact ⟨normP a, List.mem_map.2 ⟨a, ha, rfl⟩, ((ihm a ha).good.2.2 v).2 hv⟩
        · rintro ⟨b, hb, hv⟩
          obtain ⟨a, ha, rfl⟩ := List.mem_map.1 (show b ∈ t.args.map normP from hb)
          exact ⟨a, ha, ((ihm a ha).good.2.2 v).1 hv⟩
/-! ### Free variables: none twice -/
theorem addV_nodup {acc : List Int} (h : acc.Nodup) (x : Int) : (addV acc x).Nodup := by
  unfold addV
  split
  · exact h
  · rename_i hx
    have hn : x ∉ acc := fun hm => hx (List.any_eq_true.2 ⟨x, hm, by simp⟩)
    rw [List.nodup_append]
    refine ⟨h, by simp, fun a ha b hb => ?_⟩
    rw [List.mem_singleton.1 hb]
    rintro rfl
    exact hn ha
theorem foldl_nodup : ∀ (l acc : List Int), acc.Nodup → (l.foldl addV acc).Nodup
  | [], _, h => h
  | x :: l, _, h => foldl_nodup l _ (addV_nodup h x)
theorem frees_nodup : ∀ (l : List Ty) (acc : List Int), acc.Nodup → (frees l acc).Nodup
  | [], _, h => by rw [frees]; exact h
  | a :: r, _, h => by rw [frees]; exact frees_nodup r _ (foldl_nodup _ _ h)
theorem freeP_nodup (t : Ty) : (freeP t).Nodup := by
  cases t with
  | mk k n v l =>
    rw [freeP]
    split
    · simp
    · exact frees_nodup l [] List.nodup_nil
/-- What the law asks. -/
theorem norm_law {a : Ty} (h : a.Nok) : Good (normP a) ∧ nodes (normP a) = nodes a ∧ (freeP (normP a)).length = (freeP a).length := by
  obtain ⟨h1, h2, h3⟩ := (row_ok _ a rfl h).good
  exact ⟨h1, h2, ((List.perm_ext_iff_of_nodup (freeP_nodup _) (freeP_nodup _)).2 h3).length_eq⟩
theorem Okt.nok : ∀ (n : Nat) (t : Ty), nodes t = n → Okt t → t.Nok := by
  intro n
  induction n using Nat.strongRecOn with
  | _ n ih =>
  intro t hn ht
  have hne := nodes_eq t
  have hp := ht.parts
  cases t with
  | mk k m v l => exact .mk k m v l hp.1 fun a ha => ih (nodes a) (by have := nodess_mem l a ha; have : nodess (Ty.args (.mk k m v l)) = nodess l := rfl; omega) a rfl (hp.2 a ha)
end Go.Proofs.YthchnabhbpdfgaaDoor
end

section
namespace Go.Proofs.YthchnabhbpdfgaaDoor
open Go.RowKit Go.Shelf Go.Sort Stab
def numT : Ty := .mk 1 ⟨#[80, 114, 101, 108, 117, 100, 101, 46, 73, 110, 116]⟩ 0 []
set_option maxHeartbeats 400000 in
theorem num_any (W : World) : Calls Tryd.prog 8 #[] W fun e w' => e = .returned (tyV numT (.slice none 0 0)) ∧ Keeps (fun _ => False) W w' := by
  go_enter Tryd.func8, Tryd.ntmps8
  go_wp2_with fail
  refine ret_row Tryd.results8 rfl (Blk.new W 24 [.int .i64 1, .string ⟨#[80, 114, 101, 108, 117, 100, 101, 46, 73, 110, 116]⟩, .int .i64 0, .slice none 0 0]) Tryd.underlying24 (by kernel_rfl) rfl ⟨rfl, (Keeps.refl _ _).alloc _⟩
theorem num_ok {w : World} {F : Nat → Prop} : TyC w F numT (.slice none 0 0) := ⟨by show (Lit.int .i64 1).wf = true; decide, by show (11 : Nat) ≤ maxLen; unfold maxLen; omega, by show (Lit.int .i64 0).wf = true; decide, Sl.nil_⟩
end Go.Proofs.YthchnabhbpdfgaaDoor
end

section
namespace Go.Proofs.YthchnabhbpdfgaaDoor
open Go.RowKit Go.Shelf Go.Sort Stab

def emptyR : Ty := .mk 4 ⟨#[]⟩ 0 []
def rowT (L : List (ByteArray × Ty)) : Ty := foldX L emptyR
theorem rowT_cons (x : ByteArray × Ty) (L : List (ByteArray × Ty)) : rowT (x :: L) = extT x.1 x.2 (rowT L) := rfl
theorem varT_eq (v : Int) : varT v = .mk 0 ⟨#[]⟩ v [] := rfl
/-- Each variable stands for itself or for the constant. -/
structure Smp (n : Nat) (σ : List Ty) : Prop where
  len : σ.length = n
  at_ : ∀ i, i < n → σ[i]? = some (varT (i : Int)) ∨ σ[i]? = some numT
theorem smp_id (n : Nat) : Smp n (idS n) := ⟨idS_len n, fun _ h => .inl (idS_get h)⟩
theorem Smp.set {n : Nat} {σ : List Ty} (h : Smp n σ) {v : Nat} (hv : v < n) : Smp n (σ.set v numT) := by
  refine ⟨by rw [List.length_set]; exact h.len, fun i hi => ?_⟩
  by_cases e : v = i
  · subst e
    exact .inr (by rw [List.getElem?_set_self (by rw [h.len]; exact hv)])
  · rw [List.getElem?_set_ne e]
    exact h.at_ i hi
theorem walk_not (σ : List Ty) (k : Nat) {t : Ty} (h : t.kind ≠ 0) : walkP σ (k + 1) t = some t := by rw [walkP, if_neg (fun h2 => h h2.1)]
theorem numT_kind : numT.kind ≠ 0 := by show (1 : Int) ≠ 0; decide
theorem Smp.walk {n : Nat} {σ : List Ty} (h : Smp n σ) (k : Nat) {v : Nat} (hv : v < n) : walkP σ (k + 2) (varT (v : Int)) = some (varT (v : Int)) ∨ walkP σ (k + 2) (varT (v : Int)) = some numT := by
  rw [walkP, if_pos ⟨rfl, by rw [h.len]; show (v : Int) < (n : Int); omega⟩]
  rw [show (varT (v : Int)).var.toNat = v from rfl]
  rcases h.at_ v hv with e | e
  · left; rw [e]; dsimp only; rw [if_pos ⟨rfl, rfl⟩]
  · right; rw [e]; dsimp only; rw [if_neg (fun h => numT_kind h.1), walk_not σ k numT_kind]
theorem occ_num (σ : List Ty) (v : Int) (k : Nat) (s : List Bool) : occP σ v (k + 1) s numT = some (false, s) := by
  rw [occP, if_neg numT_kind]; rfl
theorem size_num (σ : List Ty) (k : Nat) (of : List Int) : sizeP σ (k + 1) of numT = some (1, of) := by
  rw [sizeP, if_neg numT_kind]; rfl
theorem Smp.sizedL {n : Nat} {σ : List Ty} (h : Smp n σ) (k : Nat) : ∀ (l : List Nat) (of : List Int), (∀ v ∈ l, v < n) → (∀ i, of.getD i 0 ≤ 1) → Go.Proofs.YthchnabhbpdfgaaDoor.sizedL σ (k + 2) l of = some 0
  | [], _, _, _ => rfl
  | v :: l, of, hl, ho => by
    have hl2 : ∀ w ∈ l, w < n := fun w hw => hl w (List.mem_cons_of_mem _ hw)
    have hs : ∃ m of', sizeP σ (k + 2) of (varT (v : Int)) = some (m, of') ∧ m ≤ 1 ∧ ∀ i, of'.getD i 0 ≤ 1 := by
      rw [sizeP, if_pos (show (varT (v : Int)).kind = 0 from rfl), show (varT (v : Int)).var.toNat = v from rfl]
      rcases h.at_ v (hl v List.mem_cons_self) with e | e
      · rw [e]; dsimp only; rw [if_pos ⟨rfl, rfl⟩]; exact ⟨1, of, rfl, by decide, ho⟩
      · rw [e]; dsimp only; rw [if_neg (fun h => numT_kind h.1)]
        split
        · rw [size_num]
          refine ⟨1, _, rfl, by decide, fun i => ?_⟩
          rw [List.getD_eq_getElem?_getD]
          by_cases e2 : v = i
          · subst e2
            by_cases hv : v < of.length
            · rw [List.getElem?_set_self hv]; decide
            · rw [List.getElem?_eq_none (by rw [List.length_set]; omega)]; decide
          · rw [List.getElem?_set_ne e2, ← List.getD_eq_getElem?_getD]; exact ho i
        · exact ⟨_, of, rfl, ho v, ho⟩
    obtain ⟨m, of', hs1, hs2, hs3⟩ := hs
    rw [Go.Proofs.YthchnabhbpdfgaaDoor.sizedL, hs1]
    dsimp only
    rw [if_neg (by omega)]
    exact Smp.sizedL h k l of' hl2 hs3
theorem Smp.bind {n : Nat} {σ : List Ty} (h : Smp n σ) (k : Nat) {v : Nat} (hv : v < n) : bindP (k + 2) σ (v : Int) numT = some (0, σ.set v numT) := by
  rw [bindP, if_neg (fun h => numT_kind h.1), occ_num]
  dsimp only
  rw [Int.toNat_natCast, sizedP, (h.set hv).sizedL k _ _ (fun w hw => by rw [List.length_set, h.len] at hw; exact List.mem_range.1 hw) (fun i => by
    rw [List.getD_eq_getElem?_getD, List.getElem?_replicate]
    split <;> decide)]
theorem Smp.ent {n : Nat} {σ : List Ty} (h : Smp n σ) (k q : Nat) {v : Nat} (hv : v < n) {u : Ty} (hu : u = varT (v : Int) ∨ u = numT) : ∃ σ', unifyP (k + 2) (q + 1) σ (varT (v : Int)) u = some (0, σ') ∧ Smp n σ' := by
  have hn : unifyL (unifyP (k + 2) q) numT.args numT.args σ = some (0, σ) := rfl
  rw [unifyP]
  rcases h.walk k hv with e | e
  · rw [e]
    rcases hu with rfl | rfl
    · rw [e]; dsimp only
      rw [if_pos (show (varT (v : Int)).kind = 0 from rfl), bindP, if_pos ⟨rfl, rfl⟩]
      exact ⟨σ, rfl, h⟩
    · rw [walk_not σ (k + 1) numT_kind]; dsimp only
      rw [if_pos (show (varT (v : Int)).kind = 0 from rfl), show (varT (v : Int)).var = (v : Int) from rfl, h.bind k hv]
      exact ⟨_, rfl, h.set hv⟩
  · have e2 : walkP σ (k + 2) u = some numT := by
      rcases hu with rfl | rfl
      · exact e
      · exact walk_not σ (k + 1) numT_kind
    rw [e, e2]; dsimp only
    rw [if_neg numT_kind, if_neg numT_kind, if_neg (fun h => absurd h.1 (show ¬ (1 : Int) = 5 by decide)), if_neg (by simp), hn]
    exact ⟨σ, rfl, h⟩

/-! ### Rows -/
theorem rowT_kind (L : List (ByteArray × Ty)) : (rowT L).kind = if L = [] then 4 else 5 := by
  cases L with
  | nil => rfl
  | cons x L => rw [if_neg (by simp)]; rfl
theorem rowT_not0 (L : List (ByteArray × Ty)) : (rowT L).kind ≠ 0 := by rw [rowT_kind]; split <;> decide
theorem tail_row (σ : List Ty) (k : Nat) : ∀ (L : List (ByteArray × Ty)) (q : Nat), L.length < q → tailL σ (k + 1) q (rowT L) = some (-1)
  | _, 0, h => by simp at h
  | [], q + 1, _ => by rw [tailL, if_neg (show ¬ (rowT []).kind = 5 from (by decide : ¬ (4 : Int) = 5))]; rfl
  | x :: L, q + 1, h => by
    rw [tailL, if_pos (show (rowT (x :: L)).kind = 5 from rfl)]
    show (match walkP σ (k + 1) (rowT L) with | none => none | some y' => tailL σ (k + 1) q y') = _
    rw [walk_not σ k (rowT_not0 L)]
    exact tail_row σ k L q (by simp at h; omega)
def take1 (n : ByteArray) : List (ByteArray × Ty) → Option (Ty × List (ByteArray × Ty))
  | [] => none
  | y :: M => if y.1 = n then some (y.2, M) else match take1 n M with
    | none => none
    | some p => some (p.1, y :: p.2)
theorem take1_none {n : ByteArray} : ∀ {M : List (ByteArray × Ty)}, take1 n M = none → n ∉ M.map Prod.fst
  | [], _ => by simp
  | y :: M, h => by
    rw [take1] at h
    split at h
    · cases h
    · rename_i hn
      split at h
      · rename_i h2
        have := take1_none h2
        simp only [List.map_cons, List.mem_cons, not_or]
        exact ⟨fun e => hn e.symm, this⟩
      · cases h
theorem take1_some {n : ByteArray} : ∀ {M : List (ByteArray × Ty)} {t : Ty} {M' : List (ByteArray × Ty)}, take1 n M = some (t, M') → M.Perm ((n, t) :: M')
  | [], _, _, h => by cases h
  | y :: M, t, M', h => by
    rw [take1] at h
    split at h
    · rename_i hn
      simp only [Option.some.injEq, Prod.mk.injEq] at h
      rw [← h.1, ← h.2, ← hn]
    · split at h
      · cases h
      · rename_i p h2
        simp only [Option.some.injEq, Prod.mk.injEq] at h
        rw [← h.1, ← h.2]
        exact ((take1_some (show take1 n M = some (p.1, p.2) from h2)).cons y).trans (List.Perm.swap _ _ _)
theorem extract_row (k : Nat) (n : ByteArray) (σ : List Ty) : ∀ (M : List (ByteArray × Ty)) (q : Nat), M.length < q →
    (∀ t M', take1 n M = some (t, M') → extractP (k + 1) n (-1) q σ (rowT M) = some (t, rowT M', 0, σ)) ∧ (take1 n M = none → ∃ rest, extractP (k + 1) n (-1) q σ (rowT M) = some (zeroT, rest, 10, σ))
  | _, 0, h => by simp at h
  | [], q + 1, _ => by
    refine ⟨fun t M' h => (by cases h), fun _ => ⟨zeroT, ?_⟩⟩
    rw [extractP, walk_not σ k (rowT_not0 [])]
    dsimp only
    rw [if_neg (rowT_not0 []), if_pos (show (rowT []).kind ≠ 5 from (by decide : (4 : Int) ≠ 5))]
  | y :: M, q + 1, h => by
    have ih := extract_row k n σ M q (by simp at h; omega)
    rw [extractP, walk_not σ k (rowT_not0 (y :: M))]
    dsimp only
    rw [if_neg (rowT_not0 (y :: M)), if_neg (show ¬ (rowT (y :: M)).kind ≠ 5 from (by decide : ¬ (5 : Int) ≠ 5))]
    show (∀ t M', take1 n (y :: M) = some (t, M') → (if y.1 = n then some (y.2, rowT M, (0 : Int), σ) else match extractP (k + 1) n (-1) q σ (rowT M) with
          | none => none
          | some (t, rest, e, σ') => some (t, extT y.1 y.2 rest, e, σ')) = some (t, rowT M', 0, σ)) ∧ (take1 n (y :: M) = none → ∃ rest, (if y.1 = n then some (y.2, rowT M, (0 : Int), σ) else match extractP (k + 1) n (-1) q σ (rowT M) with
          | none => none
          | some (t, rest, e, σ') => some (t, extT y.1 y.2 rest, e, σ')) = some (zeroT, rest, 10, σ))
    by_cases hn : y.1 = n
    · rw [if_pos hn, take1, if_pos hn]
      refine ⟨fun t M' h => ?_, fun h => by cases h⟩
      simp only [Option.some.injEq, Prod.mk.injEq] at h
      rw [h.1, h.2]
    · rw [if_neg hn, take1, if_neg hn]
      cases ht : take1 n M with
      | none =>
        obtain ⟨rest, hr⟩ := ih.2 ht
        rw [hr]
        exact ⟨fun t M' h => (by cases h), fun _ => ⟨_, rfl⟩⟩
      | some p =>
        rw [ih.1 p.1 p.2 ht]
        refine ⟨fun t M' h => ?_, fun h => by cases h⟩
        simp only [Option.some.injEq, Prod.mk.injEq] at h
        rw [← h.1, ← h.2]; rfl
/-- The variable of a label. -/
def labV (n : ByteArray) : Nat := n.size % 12
theorem rows_law (n k : Nat) (hn : 12 ≤ n) : ∀ (L M : List (ByteArray × Ty)) (q : Nat) (σ : List Ty), Smp n σ → (∀ x ∈ L, x.2 = varT (labV x.1 : Int)) → (∀ y ∈ M, y.2 = varT (labV y.1 : Int) ∨ y.2 = numT) →
    L.length + 2 ≤ q → L.length < k + 2 → M.length < k + 2 → ∃ r σ', unifyP (k + 2) q σ (rowT L) (rowT M) = some (r, σ') ∧ ((L.map Prod.fst).Perm (M.map Prod.fst) → r = 0) ∧ (r = 0 → L.length = M.length)
  | _, _, 0, _, _, _, _, h, _, _ => by omega
  | [], M, q + 1, σ, hσ, _, hM, _, _, _ => by
    rw [unifyP, walk_not σ (k + 1) (rowT_not0 []), walk_not σ (k + 1) (rowT_not0 M)]
    dsimp only
    rw [if_neg (rowT_not0 []), if_neg (rowT_not0 M), if_neg (fun h => absurd h.1 (show ¬ (4 : Int) = 5 by decide))]
    cases M with
    | nil => rw [if_neg (by simp)]; exact ⟨0, σ, rfl, fun _ => rfl, fun _ => rfl⟩
    | cons y M =>
      rw [if_pos (.inl (show (4 : Int) ≠ 5 by decide))]
      exact ⟨10, σ, rfl, fun h => by have := h.length_eq; simp at this, fun h => absurd h (by decide)⟩
  | x :: L, M, q + 1, σ, hσ, hL, hM, hq, hk, hkM => by
    simp only [List.length_cons] at hq hk
    have h4 : (4 : Int) ≤ (rowT M).kind := by rw [rowT_kind]; split <;> decide
    rw [unifyP, walk_not σ (k + 1) (rowT_not0 (x :: L)), walk_not σ (k + 1) (rowT_not0 M)]
    dsimp only
    rw [if_neg (rowT_not0 (x :: L)), if_neg (rowT_not0 M), if_pos ⟨rfl, h4⟩, rowsP, tailP, walk_not σ (k + 1) (rowT_not0 (x :: L))]
    dsimp only
    rw [tail_row σ (k + 1) (x :: L) (k + 2) (by simp only [List.length_cons]; omega)]
    dsimp only
    have hex := extract_row (k + 1) x.1 σ M (k + 2) hkM
    rw [show (rowT (x :: L)).name = x.1 from rfl, show (rowT (x :: L)).args = [x.2, rowT L] from rfl]
    cases ht : take1 x.1 M with
    | none =>
      obtain ⟨rest, hr⟩ := hex.2 ht
      rw [hr]
      dsimp only
      rw [if_pos (by decide)]
      refine ⟨10, σ, rfl, fun h => ?_, fun h => absurd h (by decide)⟩
      exact absurd (h.subset (by simp)) (take1_none ht)
    | some p =>
      obtain ⟨t, M'⟩ := p
      have hp := take1_some ht
      rw [hex.1 t M' ht]
      dsimp only
      rw [if_neg (by simp)]
      have hv : labV x.1 < n := by unfold labV; omega
      have ht2 : t = varT (labV x.1 : Int) ∨ t = numT := hM (x.1, t) (hp.symm.subset List.mem_cons_self)
      obtain ⟨q', rfl⟩ : ∃ q', q = q' + 1 := ⟨q - 1, by omega⟩
      obtain ⟨σ1, h1, hσ1⟩ := hσ.ent k q' hv ht2
      rw [hL x List.mem_cons_self, h1]
      dsimp only
      rw [if_neg (by simp)]
      have hlen := hp.length_eq
      simp only [List.length_cons] at hlen
      obtain ⟨r, σ2, h2, h3, h5⟩ := rows_law n k hn L M' (q' + 1) σ1 hσ1 (fun y hy => hL y (List.mem_cons_of_mem _ hy)) (fun y hy => hM y (hp.symm.subset (List.mem_cons_of_mem _ hy))) (by omega) (by omega) (by omega)
      refine ⟨r, σ2, h2, fun h => h3 ?_, fun h => by rw [List.length_cons, hlen, h5 h]⟩
      have h6 := h.trans (hp.map Prod.fst)
      simp only [List.map_cons] at h6
      exact h6.cons_inv

/-! ### Valid rows -/
def EntOk (t : Ty) : Prop := (∃ v : Nat, v < 12 ∧ t = varT (v : Int)) ∨ t = numT
theorem labV_ok (n : ByteArray) : EntOk (varT (labV n : Int)) := .inl ⟨labV n, by unfold labV; omega, rfl⟩
theorem chk_num (left depth : Int) (hl : 1 ≤ left) (hd : depth ≤ 400) : chk numT left false depth = (0, left - 1) := by
  rw [numT, chk, if_neg (by omega), if_neg (by omega), if_neg, if_neg (by simp), if_neg (by omega), chks]
  rintro (h1 | h1 | h1)
  · exact absurd h1.1 (by decide)
  · exact h1.2 rfl
  · exact h1.1 rfl
theorem chk_ent {t : Ty} (h : EntOk t) (left depth : Int) (hl : 1 ≤ left) (hd : depth ≤ 400) : chk t left false depth = (0, left - 1) := by
  rcases h with ⟨v, hv, rfl⟩ | rfl
  · exact chk_var (by omega) left hl depth hd false
  · exact chk_num left depth hl hd
theorem rowed_no (k : Int) : rowed 5 0 k = false := rfl
theorem rowed_yes (k : Int) : rowed 5 1 k = true := rfl
theorem chk_row : ∀ (L : List (ByteArray × Ty)) (left depth : Int), (∀ x ∈ L, EntOk x.2) → 2 * (L.length : Int) + 1 ≤ left → depth + (L.length : Int) ≤ 400 → chk (rowT L) left true depth = (0, left - (2 * (L.length : Int) + 1))
  | [], left, depth, _, hl, hd => by
    simp only [List.length_nil] at hl hd
    show chk (.mk 4 ⟨#[]⟩ 0 []) left true depth = _
    rw [chk, if_neg (by omega), if_neg (by omega), if_neg, if_neg (by simp), if_neg (by omega), chks]
    · simp
    · rintro (h1 | h1 | h1)
      · exact h1.2 rfl
      · exact h1.2 rfl
      · exact absurd h1.2.2 (by simp [ByteArray.toList_eq])
  | x :: L, left, depth, h, hl, hd => by
    simp only [List.length_cons] at hl hd
    push_cast at hl hd
    show chk (.mk 5 x.1 0 [x.2, rowT L]) left true depth = _
    rw [chk, if_neg (by omega), if_neg (by omega), if_neg, if_neg (by simp), if_neg (by omega), chks, rowed_no, chk_ent (h x List.mem_cons_self) _ _ (by omega) (by omega), if_pos rfl, chks, rowed_yes, chk_row L _ _ (fun y hy => h y (List.mem_cons_of_mem _ hy)) (by omega) (by omega), if_pos rfl, chks]
    · simp only [List.length_cons, Prod.mk.injEq, true_and]; push_cast; omega
    · rintro (h1 | h1 | h1)
      · exact h1.2 rfl
      · exact h1.2 rfl
      · exact h1.2.1 rfl
theorem tyErr_row (L : List (ByteArray × Ty)) (h : ∀ x ∈ L, EntOk x.2) (hl : L.length ≤ 300) : tyErr 12 (rowT L) = 0 := by
  have hk : decide (4 ≤ (rowT L).kind) = true := by rw [rowT_kind]; split <;> rfl
  unfold tyErr
  rw [hk, chk_row L 4096 1 h (by omega) (by omega), if_neg (by simp), if_neg]
  intro ha
  obtain ⟨v, hv, hv2⟩ := List.any_eq_true.1 ha
  have h12 := of_decide_eq_true hv2
  rcases (free_fold emptyR v L).1 hv with h1 | ⟨x, hx, h1⟩
  · rw [emptyR, freeP, if_neg (by decide), frees] at h1; simp at h1
  · rcases h x hx with ⟨u, hu, e⟩ | e
    · rw [e, freeP_var rfl, List.mem_singleton] at h1
      have : (varT (u : Int)).var = (u : Int) := rfl
      rw [this] at h1
      omega
    · rw [e, numT, freeP, if_neg (by decide), frees] at h1; simp at h1
/-- What a row of the law looks like. -/
def RowOf (L : List (ByteArray × Ty)) : Prop := (∀ x ∈ L, x.2 = varT (labV x.1 : Int)) ∧ L.length ≤ 300
/-! ### Norm of rows that are alike but for their order -/
theorem norm_ent {t : Ty} (h : EntOk t) : normP t = t := by
  have h5 : t.kind ≠ 5 := by
    rcases h with ⟨v, _, rfl⟩ | rfl
    · show (0 : Int) ≠ 5; decide
    · show (1 : Int) ≠ 5; decide
  have ha : t.args = [] := by rcases h with ⟨v, _, rfl⟩ | rfl <;> rfl
  unfold normP
  rw [rowP_not h5, ha]
  cases t with
  | mk k n v l =>
    have : l = [] := ha
    subst this
    rfl
theorem norm_row (L : List (ByteArray × Ty)) (h : ∀ x ∈ L, EntOk x.2) : normP (rowT L) = rowT (Stab.isort ltL L) := by
  unfold normP rowT
  rw [rowP_fold (e := emptyR) (show (4 : Int) ≠ 5 by decide) (fun a ha => by cases ha) L (fun x hx => norm_ent (h x hx))]
  rfl
theorem sLt_anti {a b : ByteArray} (h : sLt b a = false) (h' : sLt a b = false) : a = b := by
  have h2 : ¬ a.toList < b.toList := by rw [← sLt_iff, h']; simp
  have h3 : ¬ b.toList < a.toList := by rw [← sLt_iff, h]; simp
  have he : a.toList = b.toList := List.le_antisymm (List.not_lt.1 h3) (List.not_lt.1 h2)
  rw [ByteArray.toList_eq, ByteArray.toList_eq] at he
  exact ByteArray.ext (Array.toList_inj.1 he)
theorem sorted_unique : ∀ (A B : List (ByteArray × Ty)), Stab.Sorted ltL A → Stab.Sorted ltL B → A.Perm B → (∀ x ∈ A, ∀ y ∈ A, x.1 = y.1 → x = y) → A = B
  | [], B, _, _, hp, _ => (List.nil_perm.1 hp).symm
  | x :: A, [], _, _, hp, _ => by have := hp.length_eq; simp at this
  | x :: A, y :: B, hA, hB, hp, hd => by
    have gA := List.pairwise_cons.1 hA
    have gB := List.pairwise_cons.1 hB
    have e : x = y := by
      have hx : x ∈ y :: B := hp.subset List.mem_cons_self
      have hy : y ∈ x :: A := hp.symm.subset List.mem_cons_self
      rcases List.mem_cons.1 hx with e | hx
      · exact e
      · rcases List.mem_cons.1 hy with e | hy2
        · exact e.symm
        · exact hd x List.mem_cons_self y hy (sLt_anti (gA.1 y hy2) (gB.1 x hx))
    subst e
    rw [sorted_unique A B gA.2 gB.2 hp.cons_inv (fun a ha b hb => hd a (List.mem_cons_of_mem _ ha) b (List.mem_cons_of_mem _ hb))]
theorem same_rows (L M : List (ByteArray × Ty)) (hL : RowOf L) (hp : L.Perm M) : eqT (normP (rowT L)) (normP (rowT M)) = true := by
  have hM : ∀ y ∈ M, y.2 = varT (labV y.1 : Int) := fun y hy => hL.1 y (hp.symm.subset hy)
  rw [norm_row L (fun x hx => by rw [hL.1 x hx]; exact labV_ok _), norm_row M (fun x hx => by rw [hM x hx]; exact labV_ok _)]
  have e : Stab.isort ltL L = Stab.isort ltL M := sorted_unique _ _ (isort_sorted weakL L) (isort_sorted weakL M) (((nisort_perm L).trans hp).trans (nisort_perm M).symm) (fun x hx y hy h => by
    have h1 := hL.1 x ((mem_isort _).1 hx)
    have h2 := hL.1 y ((mem_isort _).1 hy)
    rw [Prod.ext_iff]
    exact ⟨h, by rw [h1, h2, h]⟩)
  rw [e, eqT_refl]
theorem row_nok (L : List (ByteArray × Ty)) (h : ∀ x ∈ L, EntOk x.2) : (rowT L).Nok :=
  nok_fold (e := emptyR) (show (4 : Int) ≠ 5 by decide) (fun a ha => by cases ha) L (fun x hx => by
    rcases h x hx with ⟨v, _, e⟩ | e
    · rw [e]; exact .mk _ _ _ _ (fun h => absurd h (by decide)) (fun a ha => by cases ha)
    · rw [e]; exact .mk _ _ _ _ (fun h => absurd h (by decide)) (fun a ha => by cases ha))
theorem row_nodes (L : List (ByteArray × Ty)) (h : ∀ x ∈ L, EntOk x.2) : nodes (rowT L) = 2 * L.length + 1 := by
  have hs : ∀ M : List (ByteArray × Ty), (∀ x ∈ M, EntOk x.2) → sumN M = 2 * M.length := by
    intro M
    induction M with
    | nil => intro _; rfl
    | cons x M ih =>
      intro hM
      have h1 : nodes x.2 = 1 := by
        rcases hM x List.mem_cons_self with ⟨v, _, e⟩ | e <;> rw [e] <;> rfl
      have h2 : sumN (x :: M) = nodes x.2 + 1 + sumN M := by simp [sumN]
      rw [h2, h1, ih (fun y hy => hM y (List.mem_cons_of_mem _ hy)), List.length_cons]; omega
  have h1 : nodes emptyR = 1 := rfl
  unfold rowT
  rw [nodes_fold, hs L h, h1]; omega
end Go.Proofs.YthchnabhbpdfgaaDoor
end
