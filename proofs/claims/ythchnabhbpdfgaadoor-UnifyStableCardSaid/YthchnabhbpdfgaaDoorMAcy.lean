/- unify.Apply in plain words. Rows up to the order of different labels, by the lists of the entries of each label. No program in sight. A type unifies with an instance that has no variables: matching. No program in sight. What CheckSubst asks: it ends, and where it finds no cycle all variables lead to an end. No program in sight. -/
import Derived.Test.YthchnabhbpdfgaaDoorUni
import Derived.Test.YthchnabhbpdfgaaDoorNormD
import Derived.Test.YthchnabhbpdfgaaDoorMRowL
section
namespace Go.Proofs.YthchnabhbpdfgaaDoor
open Go.RowKit Go.Shelf

def mapO (f : Ty → Option Ty) : List Ty → Option (List Ty)
  | [] => some []
  | a :: l => match f a with
    | none => none
    | some b => match mapO f l with
      | none => none
      | some m => some (b :: m)
def applyP (σ : List Ty) (k : Nat) : Nat → Ty → Option Ty
  | 0, _ => none
  | q + 1, t => match walkP σ k t with
    | none => none
    | some r => if r.args.length = 0 then some r else match mapO (applyP σ k q) r.args with
      | none => none
      | some l => some (.mk r.kind r.name r.var l)
theorem mapO_cons {f : Ty → Option Ty} {a : Ty} {l m : List Ty} : mapO f (a :: l) = some m ↔ ∃ b m', f a = some b ∧ mapO f l = some m' ∧ m = b :: m' := by
  rw [mapO]
  cases f a with
  | none => simp
  | some b =>
    cases mapO f l with
    | none => simp
    | some m' => simp [eq_comm]
theorem mapO_len {f : Ty → Option Ty} : ∀ {l m : List Ty}, mapO f l = some m → m.length = l.length
  | [], m, h => by rw [mapO] at h; obtain rfl := Option.some.inj h; rfl
  | a :: l, m, h => by
    obtain ⟨b, m', _, h2, rfl⟩ := mapO_cons.1 h
    rw [List.length_cons, List.length_cons, mapO_len h2]
theorem mapO_snoc {f : Ty → Option Ty} {x y : Ty} (hx : f x = some y) : ∀ {l m : List Ty}, mapO f l = some m → mapO f (l ++ [x]) = some (m ++ [y])
  | [], m, h => by
    rw [mapO] at h; obtain rfl := Option.some.inj h
    exact mapO_cons.2 ⟨y, [], hx, rfl, rfl⟩
  | a :: l, m, h => by
    obtain ⟨b, m', h1, h2, rfl⟩ := mapO_cons.1 h
    exact mapO_cons.2 ⟨b, m' ++ [y], h1, mapO_snoc hx h2, rfl⟩
theorem mapO_at {f : Ty → Option Ty} : ∀ {l m : List Ty}, mapO f l = some m → ∀ (i : Nat) (hi : i < l.length), ∃ y, f l[i] = some y ∧ m[i]? = some y
  | [], m, h, i, hi => by simp at hi
  | a :: l, m, h, i, hi => by
    obtain ⟨b, m', h1, h2, rfl⟩ := mapO_cons.1 h
    cases i with
    | zero => exact ⟨b, h1, rfl⟩
    | succ i => exact mapO_at h2 i (by simpa using hi)
/-- Well-shaped: known kinds, the right number of arguments, no idle parts. -/
inductive Ty.Wf : Ty → Prop where
  | mk (k : Int) (n : ByteArray) (v : Int) (l : List Ty) (hk : 0 ≤ k ∧ k ≤ 5) (hs : 0 ≤ sz k → (l.length : Int) = sz k) (hv : k ≠ 0 → v = 0) (hn : k ≠ 1 → k ≠ 5 → n.toList.isEmpty = true) (h0 : k = 0 → 0 ≤ v) (hl : ∀ a ∈ l, Ty.Wf a) : Ty.Wf (.mk k n v l)
theorem Ty.Wf.varOk {t : Ty} (h : t.Wf) : VarOk t := by cases h with | mk k n v l hk hs hv hn h0 hl => exact h0
theorem Ty.Wf.arg {t : Ty} (h : t.Wf) {a : Ty} (ha : a ∈ t.args) : a.Wf := by cases h with | mk k n v l hk hs hv hn h0 hl => exact hl a ha
theorem Ty.Wf.two {t : Ty} (h : t.Wf) (hk : t.kind = 5) : ∃ a r, t.args = [a, r] := by
  cases h with
  | mk k n v l hk' hs hv hn h0 hl =>
    have hk2 : k = 5 := hk
    subst hk2
    have h2 : (l.length : Int) = 2 := hs (show (0 : Int) ≤ 2 by decide)
    match l, h2 with
    | [a, r], _ => exact ⟨a, r, rfl⟩
    | [], h => simp at h
    | [_], h => simp at h
    | _ :: _ :: _ :: _, h => simp only [List.length_cons] at h; omega
theorem Ty.Wf.leaf {t : Ty} (h : t.Wf) (hk : t.kind = 0 ∨ t.kind = 4) : t.args = [] := by
  cases h with
  | mk k n v l hk' hs hv hn h0 hl =>
    have e : sz k = 0 := by
      have hk2 : k = 0 ∨ k = 4 := hk
      rcases hk2 with rfl | rfl <;> rfl
    have h2 : (l.length : Int) = sz k := hs (by rw [e]; exact Int.le_refl _)
    rw [e] at h2
    have h3 : l.length = 0 := by omega
    exact List.eq_nil_of_length_eq_zero h3
theorem Ty.Wf.nok {t : Ty} (h : t.Wf) : t.Nok := by
  induction h with
  | mk k n v l hk hs hv hn h0 hl ih =>
    refine .mk k n v l (fun h5 => ?_) ih
    subst h5
    have h2 : (l.length : Int) = 2 := hs (show (0 : Int) ≤ 2 by decide)
    omega
mutual
theorem chk_wf : ∀ (t : Ty) (left : Int) (row : Bool) (depth : Int), (chk t left row depth).1 = 0 → t.Wf
  | .mk k n v l, left, row, depth, h => by
    rw [chk] at h
    split at h
    · exact absurd (show (2 : Int) = 0 from h) (by decide)
    split at h
    · exact absurd (show (9 : Int) = 0 from h) (by decide)
    split at h
    · exact absurd (show (3 : Int) = 0 from h) (by decide)
    split at h
    · exact absurd (show (9 : Int) = 0 from h) (by decide)
    split at h
    · exact absurd (show (4 : Int) = 0 from h) (by decide)
    · rename_i h1 h2 h3 h4 h5
      refine .mk k n v l (by omega) (fun hs => ?_) (fun hk => ?_) (fun e1 e5 => ?_) (fun e0 => by omega) (chks_wf k l 0 (left - 1) (depth + 1) h)
      · exact Classical.byContradiction fun he => h3 (.inl ⟨hs, he⟩)
      · exact Classical.byContradiction fun he => h3 (.inr (.inl ⟨hk, he⟩))
      · cases he : n.toList.isEmpty with
        | true => rfl
        | false => exact absurd (.inr (.inr ⟨e1, e5, he⟩)) h3
theorem chks_wf (k : Int) : ∀ (l : List Ty) (i : Nat) (left depth : Int), (chks k l i left depth).1 = 0 → ∀ a ∈ l, a.Wf
  | [], _, _, _, _ => fun a ha => by cases ha
  | a :: r, i, left, depth, h => by
    rw [chks] at h
    split at h
    · rename_i hz
      intro b hb
      rcases List.mem_cons.1 hb with e | hb
      · rw [e]; exact chk_wf a _ _ _ hz
      · exact chks_wf k r (i + 1) _ depth h b hb
    · rename_i hz
      exact absurd h hz
end
theorem walk_fine {σ : List Ty} {N : Nat} (hσ : ∀ x ∈ σ, x.Wf ∧ nodes x ≤ N) : ∀ (k : Nat) (t r : Ty), t.Wf → nodes t ≤ N → walkP σ k t = some r → r.Wf ∧ nodes r ≤ N
  | 0, _, _, _, _, h => by cases h
  | k + 1, t, r, h1, h2, h => by
    rw [walkP] at h
    split at h
    · split at h
      · cases h
      · rename_i x hx
        split at h
        · rw [← Option.some.inj h]; exact ⟨h1, h2⟩
        · have h3 := hσ x (List.mem_of_getElem? hx)
          exact walk_fine hσ k x r h3.1 h3.2 h
    · rw [← Option.some.inj h]; exact ⟨h1, h2⟩
end Go.Proofs.YthchnabhbpdfgaaDoor
end

section
namespace Go.Proofs.YthchnabhbpdfgaaDoor
open Go.RowKit Go.Shelf Go.Sort Stab

def fl (n : ByteArray) (L : List (ByteArray × Ty)) : List (ByteArray × Ty) := L.filter fun x => decide (x.1 = n)
theorem fl_cons (n : ByteArray) (x : ByteArray × Ty) (L : List (ByteArray × Ty)) : fl n (x :: L) = if x.1 = n then x :: fl n L else fl n L := by
  unfold fl
  rw [List.filter_cons]
  by_cases h : x.1 = n
  · simp [h]
  · simp [h]
theorem fl_mem {n : ByteArray} {x : ByteArray × Ty} {L : List (ByteArray × Ty)} : x ∈ fl n L ↔ x ∈ L ∧ x.1 = n := by
  unfold fl
  rw [List.mem_filter]
  simp
theorem sLt_irr (a : ByteArray) : sLt a a = false := sLt_weak.ir a
theorem fl_ins (n : ByteArray) (x : ByteArray × Ty) : ∀ s : List (ByteArray × Ty), fl n (Stab.merge ltL [x] s) = fl n (x :: s)
  | [] => by rw [Stab.merge_nil_right]
  | y :: s => by
    rw [Stab.merge_cons]
    split
    · rename_i h
      have hne : y.1 ≠ x.1 := fun e => by
        have h2 : sLt y.1 x.1 = true := h
        rw [e, sLt_irr] at h2; cases h2
      rw [fl_cons, fl_ins n x s, fl_cons, fl_cons, fl_cons]
      by_cases h1 : x.1 = n
      · have h2 : ¬ y.1 = n := fun e => hne (e.trans h1.symm)
        simp [h1, h2]
      · by_cases h2 : y.1 = n <;> simp [h1, h2]
    · rw [Stab.merge_nil_left]
theorem fl_isort (n : ByteArray) : ∀ L : List (ByteArray × Ty), fl n (Stab.isort ltL L) = fl n L
  | [] => rfl
  | x :: L => by
    show fl n (Stab.merge ltL [x] (Stab.isort ltL L)) = _
    rw [fl_ins, fl_cons, fl_cons, fl_isort n L]
theorem sorted_fl : ∀ (A B : List (ByteArray × Ty)), Stab.Sorted ltL A → Stab.Sorted ltL B → (∀ n, fl n A = fl n B) → A = B
  | [], [], _, _, _ => rfl
  | [], y :: B, _, _, h => by have := h y.1; rw [fl_cons, if_pos rfl] at this; cases this
  | x :: A, [], _, _, h => by have := h x.1; rw [fl_cons, if_pos rfl] at this; cases this
  | x :: A, y :: B, hA, hB, h => by
    have gA := List.pairwise_cons.1 hA
    have gB := List.pairwise_cons.1 hB
    have hxB : x ∈ y :: B := (fl_mem.1 (by rw [← h x.1, fl_cons, if_pos rfl]; exact List.mem_cons_self : x ∈ fl x.1 (y :: B))).1
    have hyA : y ∈ x :: A := (fl_mem.1 (by rw [h y.1, fl_cons, if_pos rfl]; exact List.mem_cons_self : y ∈ fl y.1 (x :: A))).1
    have h1 : sLt x.1 y.1 = false := by
      rcases List.mem_cons.1 hxB with e | hx
      · rw [e]; exact sLt_irr _
      · exact gB.1 x hx
    have h2 : sLt y.1 x.1 = false := by
      rcases List.mem_cons.1 hyA with e | hy
      · rw [e]; exact sLt_irr _
      · exact gA.1 y hy
    have hn : x.1 = y.1 := sLt_anti h2 h1
    have hx := h x.1
    rw [fl_cons, fl_cons, if_pos rfl, if_pos hn.symm] at hx
    obtain ⟨e, _⟩ := List.cons.inj hx
    subst e
    congr 1
    refine sorted_fl A B gA.2 gB.2 fun n => ?_
    have hn2 := h n
    rw [fl_cons, fl_cons] at hn2
    by_cases hx1 : x.1 = n
    · rw [if_pos hx1, if_pos hx1] at hn2; exact (List.cons.inj hn2).2
    · rw [if_neg hx1, if_neg hx1] at hn2; exact hn2
theorem isort_fl {L M : List (ByteArray × Ty)} : Stab.isort ltL L = Stab.isort ltL M ↔ ∀ n, fl n L = fl n M := by
  constructor
  · intro h n
    rw [← fl_isort n L, h, fl_isort]
  · intro h
    exact sorted_fl _ _ (Stab.isort_sorted weakL L) (Stab.isort_sorted weakL M) fun n => by rw [fl_isort, fl_isort, h n]
theorem foldX_inj {e e' : Ty} (he : e.kind ≠ 5) (he' : e'.kind ≠ 5) : ∀ {L M : List (ByteArray × Ty)}, foldX L e = foldX M e' → L = M ∧ e = e'
  | [], [], h => ⟨rfl, h⟩
  | [], y :: M, h => by
    have h2 : e.kind = 5 := by
      have h3 : e = extT y.1 y.2 (foldX M e') := h
      rw [h3]; rfl
    exact absurd h2 he
  | x :: L, [], h => by
    have h2 : e'.kind = 5 := by
      have h3 : extT x.1 x.2 (foldX L e) = e' := h
      rw [← h3]; rfl
    exact absurd h2 he'
  | x :: L, y :: M, h => by
    have h3 : extT x.1 x.2 (foldX L e) = extT y.1 y.2 (foldX M e') := h
    unfold extT at h3
    simp only [Ty.mk.injEq, List.cons.injEq, and_true, true_and] at h3
    obtain ⟨h4, h5, h6⟩ := h3
    obtain ⟨h7, h8⟩ := foldX_inj he he' h6
    exact ⟨by rw [h7, Prod.ext h4 h5], h8⟩
theorem row_end {t : Ty} (h : t.Nok) : (rowP t).2.kind ≠ 5 := (row_ok _ t rfl h).k
theorem eqv_iff {a b : Ty} (ha : a.Nok) (hb : b.Nok) : normP a = normP b ↔ (∀ n, fl n (rowP a).1 = fl n (rowP b).1) ∧ (rowP a).2 = (rowP b).2 := by
  have e1 : normP a = foldX (Stab.isort ltL (rowP a).1) (rowP a).2 := rfl
  have e2 : normP b = foldX (Stab.isort ltL (rowP b).1) (rowP b).2 := rfl
  rw [e1, e2]
  constructor
  · intro h
    obtain ⟨h1, h2⟩ := foldX_inj (row_end ha) (row_end hb) h
    exact ⟨isort_fl.1 h1, h2⟩
  · rintro ⟨h1, h2⟩
    rw [isort_fl.2 h1, h2]
theorem take1_fl {x : ByteArray × Ty} : ∀ {M R : List (ByteArray × Ty)}, fl x.1 M = x :: R → ∃ M', take1 x.1 M = some (x.2, M') ∧ fl x.1 M' = R ∧ ∀ m, m ≠ x.1 → fl m M' = fl m M
  | [], R, h => by cases h
  | y :: M, R, h => by
    rw [fl_cons] at h
    by_cases hy : y.1 = x.1
    · rw [if_pos hy] at h
      obtain ⟨e, h2⟩ := List.cons.inj h
      subst e
      exact ⟨M, by rw [take1, if_pos rfl], h2, fun m hm => by rw [fl_cons, if_neg (fun e => hm e.symm)]⟩
    · rw [if_neg hy] at h
      obtain ⟨M', h1, h2, h3⟩ := take1_fl h
      refine ⟨y :: M', by rw [take1, if_neg hy, h1], by rw [fl_cons, if_neg hy, h2], fun m hm => ?_⟩
      rw [fl_cons, fl_cons, h3 m hm]
/-- The labels of a row that are equal to those of another one with a label in front. -/
theorem fl_take {x : ByteArray × Ty} {L M : List (ByteArray × Ty)} (h : ∀ n, fl n (x :: L) = fl n M) : ∃ M', take1 x.1 M = some (x.2, M') ∧ ∀ n, fl n L = fl n M' := by
  have h1 := h x.1
  rw [fl_cons, if_pos rfl] at h1
  obtain ⟨M', h2, h3, h4⟩ := take1_fl h1.symm
  refine ⟨M', h2, fun n => ?_⟩
  by_cases hn : n = x.1
  · rw [hn, h3]
  · rw [h4 n hn, ← h n, fl_cons, if_neg (fun e => hn e.symm)]
end Go.Proofs.YthchnabhbpdfgaaDoor
end

section
namespace Go.Proofs.YthchnabhbpdfgaaDoor
open Go.RowKit Go.Shelf Go.Sort Stab

mutual
def subT (X : Int → Ty) : Ty → Ty
  | .mk k n v l => if k = 0 then X v else .mk k n v (subTs X l)
def subTs (X : Int → Ty) : List Ty → List Ty
  | [] => []
  | a :: r => subT X a :: subTs X r
end
theorem subTs_map (X : Int → Ty) : ∀ l : List Ty, subTs X l = l.map (subT X)
  | [] => rfl
  | a :: r => by rw [subTs, List.map_cons, subTs_map X r]
theorem subT_var {X : Int → Ty} {t : Ty} (h : t.kind = 0) : subT X t = X t.var := by
  cases t with | mk k n v l => rw [subT, if_pos (show k = 0 from h)]; rfl
theorem subT_not {X : Int → Ty} {t : Ty} (h : t.kind ≠ 0) : subT X t = .mk t.kind t.name t.var (t.args.map (subT X)) := by
  cases t with | mk k n v l => rw [subT, if_neg (show ¬ k = 0 from h), subTs_map]; rfl
theorem ty_ind {P : Ty → Prop} (h : ∀ t, (∀ a ∈ t.args, P a) → P t) (t : Ty) : P t := by
  have : ∀ n (t : Ty), nodes t ≤ n → P t := by
    intro n
    induction n with
    | zero => intro t ht; have := nodes_eq t; omega
    | succ n ih => exact fun t ht => h t fun a ha => ih a (by have := nodes_arg ha; omega)
  exact this _ t (Nat.le_refl _)
/-- No variables. -/
def Cl (t : Ty) : Prop := freeP t = []
theorem Cl.kind {t : Ty} (h : Cl t) : t.kind ≠ 0 := fun h0 => by
  have h2 := freeP_var h0
  unfold Cl at h
  rw [h] at h2; cases h2
theorem cl_iff {t : Ty} : Cl t ↔ ∀ v, v ∉ freeP t := ⟨(fun h v hv => by unfold Cl at h; rw [h] at hv; cases hv), fun h => List.eq_nil_iff_forall_not_mem.2 h⟩
theorem Cl.arg {t a : Ty} (h : Cl t) (ha : a ∈ t.args) : Cl a := cl_iff.2 fun v hv => cl_iff.1 h v ((freeP_args h.kind).2 ⟨a, ha, hv⟩)
theorem Cl.of_args {t : Ty} (h0 : t.kind ≠ 0) (h : ∀ a ∈ t.args, Cl a) : Cl t := cl_iff.2 fun v hv => by
  obtain ⟨a, ha, hva⟩ := (freeP_args h0).1 hv
  exact cl_iff.1 (h a ha) v hva
theorem sub_closed (X : Int → Ty) (t : Ty) : Cl t → subT X t = t := by
  refine ty_ind (P := fun t => Cl t → subT X t = t) (fun t ih h => ?_) t
  rw [subT_not h.kind, List.map_congr_left (g := id) (fun a ha => ih a ha (h.arg ha)), List.map_id]
  cases t; rfl
theorem wf_var {t : Ty} (h : t.Wf) (h0 : t.kind = 0) : t = varT t.var := by
  cases h with
  | mk k n v l hk hs hv hn h0' hl =>
    have hk0 : k = 0 := h0
    subst hk0
    have h2 : (l.length : Int) = 0 := hs (Int.le_refl _)
    have h3 : l = [] := List.eq_nil_of_length_eq_zero (by omega)
    have h4 : n = ⟨#[]⟩ := by
      have := hn (by decide) (by decide)
      have h5 : n.toList = [] := List.isEmpty_iff.1 this
      rw [ByteArray.toList_eq] at h5
      cases n with | mk d =>
      have h6 : d = #[] := Array.toList_eq_nil_iff.1 h5
      rw [h6]
    rw [h3, h4]; rfl

/-! ### Types without variables -/
theorem occL_closed {f : List Bool → Ty → Option (Bool × List Bool)} (s : List Bool) : ∀ l : List Ty, (∀ a ∈ l, f s a = some (false, s)) → occL f l s = some (false, s)
  | [], _ => rfl
  | a :: r, h => by rw [occL, h a List.mem_cons_self]; exact occL_closed s r fun b hb => h b (List.mem_cons_of_mem _ hb)
theorem occ_closed (σ : List Ty) (v : Int) : ∀ (k : Nat) (s : List Bool) (t : Ty), Cl t → nodes t ≤ k → occP σ v k s t = some (false, s)
  | 0, _, t, _, h => by have := nodes_eq t; omega
  | k + 1, s, t, hc, h => by
    rw [occP, if_neg hc.kind]
    exact occL_closed s _ fun a ha => occ_closed σ v k s a (hc.arg ha) (by have := nodes_arg ha; omega)
theorem sizeL_closed {f : List Int → Ty → Option (Int × List Int)} (of : List Int) : ∀ (l : List Ty) (n : Int), (∀ a ∈ l, f of a = some (((min (nodes a) 4097 : Nat) : Int), of)) → 1 ≤ n → n ≤ 4097 → sizeL f l n of = some (min (n + (nodess l : Nat)) 4097, of)
  | [], n, _, h1, h2 => by
    rw [sizeL, nodess]
    rw [show min (n + ((0 : Nat) : Int)) 4097 = n from by omega]
  | a :: r, n, h, h1, h2 => by
    rw [sizeL, h a List.mem_cons_self]
    dsimp only
    have := nodes_eq a
    rw [sizeL_closed of r _ (fun b hb => h b (List.mem_cons_of_mem _ hb)) (by omega) (by omega), nodess]
    rw [show min (min (n + ((min (nodes a) 4097 : Nat) : Int)) 4097 + ((nodess r : Nat) : Int)) 4097 = min (n + ((nodes a + nodess r : Nat) : Int)) 4097 from by omega]
theorem size_closed (σ : List Ty) : ∀ (k : Nat) (of : List Int) (t : Ty), Cl t → nodes t ≤ k → sizeP σ k of t = some (((min (nodes t) 4097 : Nat) : Int), of)
  | 0, _, t, _, h => by have := nodes_eq t; omega
  | k + 1, of, t, hc, h => by
    rw [sizeP, if_neg hc.kind, sizeL_closed of _ 1 (fun a ha => size_closed σ k of a (hc.arg ha) (by have := nodes_arg ha; omega)) (by omega) (by omega)]
    have := nodes_eq t
    rw [show min (1 + ((nodess t.args : Nat) : Int)) 4097 = ((min (nodes t) 4097 : Nat) : Int) from by omega]
theorem walk_closed (σ : List Ty) (k : Nat) {t : Ty} (h : Cl t) : walkP σ (k + 1) t = some t := walk_not σ k h.kind
theorem mapO_id {f : Ty → Option Ty} : ∀ l : List Ty, (∀ a ∈ l, f a = some a) → mapO f l = some l
  | [], _ => rfl
  | a :: r, h => mapO_cons.2 ⟨a, r, h a List.mem_cons_self, mapO_id r fun b hb => h b (List.mem_cons_of_mem _ hb), rfl⟩
theorem apply_closed (σ : List Ty) (k : Nat) : ∀ (q : Nat) (t : Ty), Cl t → nodes t ≤ q → applyP σ (k + 1) q t = some t
  | 0, t, _, h => by have := nodes_eq t; omega
  | q + 1, t, hc, h => by
    rw [applyP, walk_closed σ k hc]
    dsimp only
    split
    · rfl
    · rw [mapO_id _ fun a ha => apply_closed σ k q a (hc.arg ha) (by have := nodes_arg ha; omega)]
      cases t; rfl

/-! ### The substitution while matching -/
structure Mt (X : Int → Ty) (σ : List Ty) : Prop where
  len : σ.length = 12
  at_ : ∀ i : Nat, i < 12 → σ[i]? = some (varT (i : Int)) ∨ ∃ c, σ[i]? = some c ∧ Cl c ∧ c.Wf ∧ nodes c ≤ 4096 ∧ normP c = normP (X (i : Int))
def Bd (σ : List Ty) (v : Nat) : Prop := ∃ c, σ[v]? = some c ∧ Cl c
def In12 (t : Ty) : Prop := ∀ v ∈ freeP t, 0 ≤ v ∧ v < 12
theorem In12.arg {t a : Ty} (h : In12 t) (h0 : t.kind ≠ 0) (ha : a ∈ t.args) : In12 a := fun v hv => h v ((freeP_args h0).2 ⟨a, ha, hv⟩)
theorem Cl.in12 {t : Ty} (h : Cl t) : In12 t := fun v hv => absurd hv (cl_iff.1 h v)
theorem Mt.walk {X : Int → Ty} {σ : List Ty} (h : Mt X σ) (k : Nat) {v : Nat} (hv : v < 12) :
    (σ[v]? = some (varT (v : Int)) ∧ walkP σ (k + 2) (varT (v : Int)) = some (varT (v : Int))) ∨ ∃ c, σ[v]? = some c ∧ Cl c ∧ c.Wf ∧ nodes c ≤ 4096 ∧ normP c = normP (X (v : Int)) ∧ walkP σ (k + 2) (varT (v : Int)) = some c := by
  rw [walkP, if_pos ⟨rfl, by rw [h.len]; show (v : Int) < ((12 : Nat) : Int); omega⟩]
  rw [show (varT (v : Int)).var.toNat = v from rfl]
  rcases h.at_ v hv with e | ⟨c, e, h1, h2, h3, h4⟩
  · left; rw [e]; dsimp only; rw [if_pos ⟨rfl, rfl⟩]; exact ⟨rfl, rfl⟩
  · right; exact ⟨c, e, h1, h2, h3, h4, by rw [e]; dsimp only; rw [if_neg (fun h => h1.kind h.1), walk_closed σ k h1]⟩
theorem Mt.set {X : Int → Ty} {σ : List Ty} (h : Mt X σ) {v : Nat} (hv : v < 12) {c : Ty} (h1 : Cl c) (h2 : c.Wf) (h3 : nodes c ≤ 4096) (h4 : normP c = normP (X (v : Int))) : Mt X (σ.set v c) := by
  refine ⟨by rw [List.length_set]; exact h.len, fun i hi => ?_⟩
  by_cases e : v = i
  · subst e
    exact .inr ⟨c, by rw [List.getElem?_set_self (by rw [h.len]; exact hv)], h1, h2, h3, h4⟩
  · rw [List.getElem?_set_ne e]
    exact h.at_ i hi
theorem Mt.sizedL {X : Int → Ty} {σ : List Ty} (h : Mt X σ) (k : Nat) (hk : 4096 ≤ k) : ∀ (l : List Nat) (of : List Int), (∀ v ∈ l, v < 12) → (∀ i, of.getD i 0 ≤ 4096) → Go.Proofs.YthchnabhbpdfgaaDoor.sizedL σ (k + 1) l of = some 0
  | [], _, _, _ => rfl
  | v :: l, of, hl, ho => by
    have hl2 : ∀ w ∈ l, w < 12 := fun w hw => hl w (List.mem_cons_of_mem _ hw)
    have hs : ∃ m of', sizeP σ (k + 1) of (varT (v : Int)) = some (m, of') ∧ m ≤ 4096 ∧ ∀ i, of'.getD i 0 ≤ 4096 := by
      rw [sizeP, if_pos (show (varT (v : Int)).kind = 0 from rfl), show (varT (v : Int)).var.toNat = v from rfl]
      rcases h.at_ v (hl v List.mem_cons_self) with e | ⟨c, e, h1, h2, h3, h4⟩
      · rw [e]; dsimp only; rw [if_pos ⟨rfl, rfl⟩]; exact ⟨1, of, rfl, by decide, ho⟩
      · rw [e]; dsimp only; rw [if_neg (fun h => h1.kind h.1)]
        split
        · rw [size_closed σ k of c h1 (by omega)]
          refine ⟨_, _, rfl, by omega, fun i => ?_⟩
          rw [List.getD_eq_getElem?_getD]
          by_cases e2 : v = i
          · subst e2
            by_cases hv : v < of.length
            · rw [List.getElem?_set_self hv]; show ((min (nodes c) 4097 : Nat) : Int) ≤ 4096; omega
            · rw [List.getElem?_eq_none (by rw [List.length_set]; omega)]; decide
          · rw [List.getElem?_set_ne e2, ← List.getD_eq_getElem?_getD]; exact ho i
        · exact ⟨_, of, rfl, ho v, ho⟩
    obtain ⟨m, of', hs1, hs2, hs3⟩ := hs
    rw [Go.Proofs.YthchnabhbpdfgaaDoor.sizedL, hs1]
    dsimp only
    rw [if_neg (by omega)]
    exact Mt.sizedL h k hk l of' hl2 hs3
theorem Mt.bind {X : Int → Ty} {σ : List Ty} (h : Mt X σ) (k : Nat) (hk : 4096 ≤ k) {v : Nat} (hv : v < 12) {c : Ty} (h1 : Cl c) (h2 : c.Wf) (h3 : nodes c ≤ 4096) (h4 : normP c = normP (X (v : Int))) :
    bindP (k + 1) σ (v : Int) c = some (0, σ.set v c) := by
  rw [bindP, if_neg (fun h => h1.kind h.1), occ_closed σ _ (k + 1) _ c h1 (by omega)]
  dsimp only
  rw [Int.toNat_natCast, sizedP, (h.set hv h1 h2 h3 h4).sizedL k hk _ _ (fun w hw => by rw [List.length_set, h.len] at hw; exact List.mem_range.1 hw) (fun i => by
    rw [List.getD_eq_getElem?_getD, List.getElem?_replicate]
    split <;> decide)]
theorem tail_closed (σ : List Ty) (k : Nat) : ∀ (q : Nat) (t : Ty), Cl t → t.Wf → nodes t ≤ q → ∃ r, tailL σ (k + 1) q t = some r
  | 0, t, _, _, h => by have := nodes_eq t; omega
  | q + 1, t, hc, hw, h => by
    rw [tailL]
    split
    · rename_i h5
      obtain ⟨x, y, e⟩ := hw.two h5
      have hy : y ∈ t.args := by rw [e]; simp
      rw [e]
      dsimp only
      rw [walk_closed σ k (hc.arg hy)]
      exact tail_closed σ k q y (hc.arg hy) (hw.arg hy) (by have := nodes_arg hy; omega)
    · exact ⟨_, rfl⟩
theorem Mt.tailL {X : Int → Ty} {σ : List Ty} (h : Mt X σ) (k : Nat) : ∀ (q : Nat) (t : Ty), In12 t → t.Wf → nodes t + 4097 ≤ q → ∃ r, Go.Proofs.YthchnabhbpdfgaaDoor.tailL σ (k + 2) q t = some r
  | 0, t, _, _, h => by omega
  | q + 1, t, hi, hw, hq => by
    rw [Go.Proofs.YthchnabhbpdfgaaDoor.tailL]
    split
    · rename_i h5
      obtain ⟨x, y, e⟩ := hw.two h5
      have hy : y ∈ t.args := by rw [e]; simp
      have hn := nodes_arg hy
      have h0 : t.kind ≠ 0 := by rw [h5]; decide
      rw [e]
      dsimp only
      by_cases hk : y.kind = 0
      · have hv := hi.arg h0 hy y.var (by rw [freeP_var hk]; exact List.mem_singleton.2 rfl)
        have e2 := wf_var (hw.arg hy) hk
        obtain ⟨v, hv2⟩ : ∃ v : Nat, y.var = (v : Int) := ⟨y.var.toNat, by omega⟩
        rw [hv2] at e2 hv
        rw [e2]
        rcases h.walk k (v := v) (by omega) with ⟨_, e3⟩ | ⟨c, _, h1, h2, h3, _, e3⟩
        · rw [e3]
          dsimp only
          obtain ⟨q, rfl⟩ : ∃ q', q = q' + 1 := ⟨q - 1, by omega⟩
          rw [Go.Proofs.YthchnabhbpdfgaaDoor.tailL, if_neg (show ¬ (varT (v : Int)).kind = 5 from (by decide : ¬ (0 : Int) = 5))]
          exact ⟨_, rfl⟩
        · rw [e3]
          exact tail_closed σ (k + 1) q c h1 h2 (by omega)
      · rw [walk_not σ (k + 1) hk]
        exact Mt.tailL h k q y (hi.arg h0 hy) (hw.arg hy) (by omega)
    · exact ⟨_, rfl⟩
/-- Taking a label off a row without variables. -/
theorem extract_closed (σ : List Ty) (k : Nat) (n : ByteArray) (v : Int) (u : Ty) : ∀ (q : Nat) (c : Ty) (M' : List (ByteArray × Ty)), Cl c → c.Wf → nodes c ≤ q → take1 n (rowP c).1 = some (u, M') →
    ∃ t rest, extractP (k + 1) n v q σ c = some (t, rest, 0, σ) ∧ normP t = u ∧ rowP rest = (M', (rowP c).2) ∧ Cl t ∧ t.Wf ∧ Cl rest ∧ rest.Wf ∧ nodes t + nodes rest < nodes c
  | 0, c, _, _, _, h, _ => by have := nodes_eq c; omega
  | q + 1, c, M', hc, hw, h, ht => by
    by_cases h5 : c.kind = 5
    · obtain ⟨x, y, e⟩ := hw.two h5
      have hx : x ∈ c.args := by rw [e]; simp
      have hy : y ∈ c.args := by rw [e]; simp
      have hnc : nodes c = nodes x + nodes y + 1 := by rw [nodes_eq c, e]; simp only [nodess]; omega
      rw [rowP_ext h5 e] at ht ⊢
      rw [extractP, walk_closed σ k hc]
      dsimp only
      rw [if_neg hc.kind, if_neg (by rw [h5]; simp), e]
      dsimp only
      rw [take1] at ht
      dsimp only at ht
      by_cases hn : c.name = n
      · rw [if_pos hn] at ht ⊢
        simp only [Option.some.injEq, Prod.mk.injEq] at ht
        refine ⟨x, y, rfl, ht.1, ?_, hc.arg hx, hw.arg hx, hc.arg hy, hw.arg hy, by omega⟩
        rw [← ht.2]
      · rw [if_neg hn] at ht ⊢
        cases h1 : take1 n (rowP y).1 with
        | none => rw [h1] at ht; cases ht
        | some p =>
          rw [h1] at ht
          simp only [Option.some.injEq, Prod.mk.injEq] at ht
          obtain ⟨ht1, ht2⟩ := ht
          obtain ⟨t, rest, e1, e2, e3, e4, e5, e6, e7, e8⟩ := extract_closed σ k n v u q y p.2 (hc.arg hy) (hw.arg hy) (by omega) (by rw [h1, ← ht1])
          rw [e1]
          have hr0 : (extT c.name x rest).kind ≠ 0 := by show (5 : Int) ≠ 0; decide
          refine ⟨t, extT c.name x rest, rfl, e2, ?_, e4, e5, Cl.of_args hr0 (fun a ha => ?_), ?_, ?_⟩
          · rw [rowP_ext (t := extT c.name x rest) rfl rfl, e3, ← ht2]; rfl
          · rcases List.mem_cons.1 ha with rfl | ha
            · exact hc.arg hx
            · rw [List.mem_singleton.1 ha]; exact e6
          · refine .mk 5 c.name 0 [x, rest] (by decide) (fun _ => rfl) (fun _ => rfl) (fun _ h => absurd rfl h) (fun h => absurd h (by decide)) (fun a ha => ?_)
            rcases List.mem_cons.1 ha with rfl | ha
            · exact hw.arg hx
            · rw [List.mem_singleton.1 ha]; exact e7
          · have := nodes_eq (extT c.name x rest)
            have h3 : nodess (extT c.name x rest).args = nodes x + (nodes rest + 0) := rfl
            omega
    · rw [rowP_not h5] at ht
      cases ht
theorem subT_wf {X : Int → Ty} (hX : ∀ v, (X v).Wf) (t : Ty) : t.Wf → (subT X t).Wf := by
  refine ty_ind (P := fun t => t.Wf → (subT X t).Wf) (fun t ih h => ?_) t
  by_cases h0 : t.kind = 0
  · rw [subT_var h0]; exact hX _
  · rw [subT_not h0]
    cases h with
    | mk k n v l hk hs hv hn h0' hl =>
      refine .mk k n v _ hk (fun h => ?_) hv hn h0' (fun a ha => ?_)
      · rw [List.length_map]; exact hs h
      · obtain ⟨b, hb, rfl⟩ := List.mem_map.1 ha
        exact ih b hb (hl b hb)
/-- What matching leaves. -/
def Mtd (X : Int → Ty) (σ : List Ty) (p : Ty) (σ' : List Ty) : Prop := Mt X σ' ∧ (∀ v, Bd σ v → σ'[v]? = σ[v]?) ∧ ∀ v ∈ freeP p, Bd σ' v.toNat
theorem match_list {X : Int → Ty} {f : List Ty → Ty → Ty → Option (Int × List Ty)} : ∀ (l m : List Ty) (σ : List Ty), Mt X σ → l.map (fun a => normP (subT X a)) = m.map normP →
    (∀ σ, Mt X σ → ∀ a ∈ l, ∀ b ∈ m, normP (subT X a) = normP b → ∃ σ', f σ a b = some (0, σ') ∧ Mtd X σ a σ') → ∃ σ', unifyL f l m σ = some (0, σ') ∧ Mt X σ' ∧ (∀ v, Bd σ v → σ'[v]? = σ[v]?) ∧ ∀ a ∈ l, ∀ v ∈ freeP a, Bd σ' v.toNat
  | [], [], σ, h, _, _ => ⟨σ, rfl, h, fun _ _ => rfl, fun a ha => by cases ha⟩
  | [], _ :: _, _, _, h, _ => by cases h
  | _ :: _, [], _, _, h, _ => by cases h
  | a :: l, b :: m, σ, h, he, hf => by
    simp only [List.map_cons, List.cons.injEq] at he
    obtain ⟨σ1, h1, h2, h3, h4⟩ := hf σ h a List.mem_cons_self b List.mem_cons_self he.1
    obtain ⟨σ2, k1, k2, k3, k4⟩ := match_list l m σ1 h2 he.2 (fun σ hσ a ha b hb => hf σ hσ a (List.mem_cons_of_mem _ ha) b (List.mem_cons_of_mem _ hb))
    have hup : ∀ v, Bd σ v → Bd σ1 v := fun v ⟨c, hc, hcl⟩ => ⟨c, by rw [h3 v ⟨c, hc, hcl⟩]; exact hc, hcl⟩
    have hup1 : ∀ v, Bd σ1 v → Bd σ2 v := fun v ⟨c, hc, hcl⟩ => ⟨c, by rw [k3 v ⟨c, hc, hcl⟩]; exact hc, hcl⟩
    refine ⟨σ2, by rw [unifyL, h1]; dsimp only; rw [if_neg (by simp)]; exact k1, k2, fun v hv => (k3 v (hup v hv)).trans (h3 v hv), fun x hx v hv => ?_⟩
    rcases List.mem_cons.1 hx with rfl | hx
    · exact hup1 _ (h4 v hv)
    · exact k4 x hx v hv
theorem match_law {X : Int → Ty} (hX : ∀ v, (X v).Wf) (k : Nat) (hk : 9000 ≤ k) : ∀ (n q : Nat) (σ : List Ty) (p c : Ty), nodes c ≤ n → n < q → Mt X σ → p.Wf → In12 p → nodes p ≤ 4096 → Cl c → c.Wf → nodes c ≤ 4096 → normP (subT X p) = normP c →
    ∃ σ', unifyP (k + 2) q σ p c = some (0, σ') ∧ Mtd X σ p σ'
  | 0, _, _, _, c, h, _, _, _, _, _, _, _, _, _ => by have := nodes_eq c; omega
  | n + 1, 0, _, _, _, _, h, _, _, _, _, _, _, _, _ => by omega
  | n + 1, q + 1, σ, p, c, hn, hq, hm, hp, hi, hpn, hc, hcw, hcn, he => by
    -- what is done with a type that is no variable
    have body : ∀ p : Ty, p.kind ≠ 0 → p.Wf → In12 p → nodes p ≤ 4096 → normP (subT X p) = normP c → ∃ σ',
        (if p.kind = 5 ∧ 4 ≤ c.kind then rowsP (k + 2) (unifyP (k + 2) q) σ p c else if p.kind ≠ c.kind ∨ p.name ≠ c.name ∨ p.args.length ≠ c.args.length then some (10, σ) else unifyL (unifyP (k + 2) q) p.args c.args σ) = some (0, σ') ∧ Mtd X σ p σ' := by
      intro p h0 hp hi hpn he
      obtain ⟨he1, he2⟩ := (eqv_iff (subT_wf hX p hp).nok hcw.nok).1 he
      by_cases h5 : p.kind = 5
      · obtain ⟨t, r, e⟩ := hp.two h5
        have htm : t ∈ p.args := by rw [e]; simp
        have hrm : r ∈ p.args := by rw [e]; simp
        have es : subT X p = .mk p.kind p.name p.var [subT X t, subT X r] := by rw [subT_not h0, e]; rfl
        have er := rowP_ext (t := subT X p) (a := subT X t) (r := subT X r) (by rw [es]; exact h5) (by rw [es]; rfl)
        have en : (subT X p).name = p.name := by rw [es]; rfl
        rw [en] at er
        rw [er] at he1 he2
        obtain ⟨M', ht1, ht2⟩ := fl_take (x := (p.name, normP (subT X t))) he1
        dsimp only at ht1 he2
        have hc5 : c.kind = 5 := by
          by_cases h : c.kind = 5
          · exact h
          · rw [rowP_not h] at ht1; cases ht1
        obtain ⟨tv, htv⟩ := hm.tailL k (k + 2) p hi hp (by omega)
        obtain ⟨t', rest, x1, x2, x3, x4, x5, x6, x7, x8⟩ := extract_closed σ (k + 1) p.name tv (normP (subT X t)) (k + 2) c M' hc hcw (by omega) ht1
        obtain ⟨σ1, y1, y2, y3, y4⟩ := match_law hX k hk n q σ t t' (by omega) (by omega) hm (hp.arg htm) (hi.arg h0 htm) (by have := nodes_arg htm; omega) x4 x5 (by omega) x2.symm
        have hrr : normP (subT X r) = normP rest := (eqv_iff (subT_wf hX r (hp.arg hrm)).nok x7.nok).2 ⟨fun n => by rw [x3]; exact ht2 n, by rw [x3]; exact he2⟩
        obtain ⟨σ2, z1, z2, z3, z4⟩ := match_law hX k hk n q σ1 r rest (by omega) (by omega) y2 (hp.arg hrm) (hi.arg h0 hrm) (by have := nodes_arg hrm; omega) x6 x7 (by omega) hrr
        have hup : ∀ v, Bd σ v → Bd σ1 v := fun v ⟨c, hc, hcl⟩ => ⟨c, by rw [y3 v ⟨c, hc, hcl⟩]; exact hc, hcl⟩
        have hup1 : ∀ v, Bd σ1 v → Bd σ2 v := fun v ⟨c, hc, hcl⟩ => ⟨c, by rw [z3 v ⟨c, hc, hcl⟩]; exact hc, hcl⟩
        refine ⟨σ2, ?_, z2, fun v hv => (z3 v (hup v hv)).trans (y3 v hv), fun v hv => ?_⟩
        · rw [if_pos ⟨h5, by rw [hc5]; decide⟩, rowsP, tailP, walk_not σ (k + 1) h0]
          dsimp only
          rw [htv]
          dsimp only
          rw [x1]
          dsimp only
          rw [if_neg (by simp), e]
          dsimp only
          rw [y1]
          dsimp only
          rw [if_neg (by simp)]
          exact z1
        · obtain ⟨a, ha, hva⟩ := (freeP_args h0).1 hv
          rw [e] at ha
          rcases List.mem_cons.1 ha with rfl | ha
          · exact hup1 _ (y4 v hva)
          · rw [List.mem_singleton.1 ha] at hva; exact z4 v hva
      · have es := subT_not (X := X) h0
        have hs5 : (subT X p).kind ≠ 5 := by rw [es]; exact h5
        rw [rowP_not hs5] at he1 he2
        have hc5 : c.kind ≠ 5 := fun h => by
          obtain ⟨x, y, e⟩ := hcw.two h
          rw [rowP_ext h e] at he1
          have := he1 c.name
          rw [fl_cons, if_pos rfl] at this
          cases this
        rw [rowP_not hc5] at he2
        dsimp only at he2
        rw [es] at he2
        simp only [Ty.kind, Ty.name, Ty.var, Ty.args, Ty.mk.injEq] at he2
        obtain ⟨e1, e2, e3, e4⟩ := he2
        have e1' : p.kind = c.kind := e1
        have e2' : p.name = c.name := e2
        have e4' : p.args.map (fun a => normP (subT X a)) = c.args.map normP := by rw [List.map_map] at e4; exact e4
        have hl : p.args.length = c.args.length := by have := congrArg List.length e4'; simpa using this
        obtain ⟨σ', y1, y2, y3, y4⟩ := match_list p.args c.args σ hm e4' (f := unifyP (k + 2) q) fun σ hσ a ha b hb hab =>
          match_law hX k hk n q σ a b (by have := nodes_arg hb; omega) (by omega) hσ (hp.arg ha) (hi.arg h0 ha) (by have := nodes_arg ha; omega) (hc.arg hb) (hcw.arg hb) (by have := nodes_arg hb; omega) hab
        refine ⟨σ', ?_, y2, y3, fun v hv => ?_⟩
        · rw [if_neg (fun h => h5 h.1), if_neg (by rw [e1', e2', hl]; simp)]
          exact y1
        · obtain ⟨a, ha, hva⟩ := (freeP_args h0).1 hv
          exact y4 a ha v hva
    by_cases h0 : p.kind = 0
    · have hv := hi p.var (by rw [freeP_var h0]; exact List.mem_singleton.2 rfl)
      have e2 := wf_var hp h0
      obtain ⟨v, hv2⟩ : ∃ v : Nat, p.var = (v : Int) := ⟨p.var.toNat, by omega⟩
      rw [hv2] at e2 hv
      have hv12 : v < 12 := by omega
      rw [subT_var h0, hv2] at he
      have hfr : freeP p = [(v : Int)] := by rw [freeP_var h0, hv2]
      rcases hm.walk k hv12 with ⟨e5, e3⟩ | ⟨c', hcv, h1, h2, h3, h4, e3⟩
      · refine ⟨σ.set v c, ?_, hm.set hv12 hc hcw hcn he.symm, fun w hw => ?_, fun w hw => ?_⟩
        · rw [e2, unifyP, e3]
          dsimp only
          rw [walk_closed σ (k + 1) hc]
          dsimp only
          rw [if_pos (show (varT (v : Int)).kind = 0 from rfl)]
          exact hm.bind (k + 1) (by omega) hv12 hc hcw hcn he.symm
        · refine List.getElem?_set_ne ?_
          rintro rfl
          obtain ⟨d, hd, hdc⟩ := hw
          rw [e5] at hd
          have := Option.some.inj hd
          rw [← this] at hdc
          exact hdc.kind rfl
        · rw [hfr, List.mem_singleton] at hw
          subst hw
          exact ⟨c, by rw [Int.toNat_natCast, List.getElem?_set_self (by rw [hm.len]; exact hv12)], hc⟩
      · obtain ⟨σ', b1, b2, b3, b4⟩ := body c' h1.kind h2 h1.in12 h3 (by rw [sub_closed X c' h1, h4]; exact he)
        refine ⟨σ', ?_, b2, b3, fun w hw => ?_⟩
        · rw [e2, unifyP, e3]
          dsimp only
          rw [walk_closed σ (k + 1) hc]
          dsimp only
          rw [if_neg h1.kind, if_neg hc.kind]
          exact b1
        · rw [hfr, List.mem_singleton] at hw
          subst hw
          exact ⟨c', by rw [Int.toNat_natCast, b3 v ⟨c', hcv, h1⟩]; exact hcv, h1⟩
    · obtain ⟨σ', b1, b2⟩ := body p h0 hp hi hpn he
      refine ⟨σ', ?_, b2⟩
      rw [unifyP, walk_not σ (k + 1) h0]
      dsimp only
      rw [walk_closed σ (k + 1) hc]
      dsimp only
      rw [if_neg h0, if_neg hc.kind]
      exact b1
end Go.Proofs.YthchnabhbpdfgaaDoor
end

section
namespace Go.Proofs.YthchnabhbpdfgaaDoor
open Go.RowKit Go.Shelf Go.Sort Stab

/-- A variable that leads to no cycle. -/
inductive Acy (σ : List Ty) : Nat → Prop where
  | self (v : Nat) (h : selfB σ v = true) : Acy σ v
  | node (v : Nat) (h : ∀ w ∈ freeAt σ v, Acy σ w.toNat) : Acy σ v
def StOk (σ : List Ty) (st : List Int) : Prop := ∀ u, 0 < st.getD u 0 → st.getD u 0 = 1 ∨ Acy σ u
theorem getD_set (st : List Int) (v u : Nat) (x : Int) : (st.set v x).getD u 0 = if v = u ∧ u < st.length then x else st.getD u 0 := by
  rw [List.getD_eq_getElem?_getD, List.getD_eq_getElem?_getD]
  by_cases h : v = u
  · subst h
    by_cases hl : v < st.length
    · rw [List.getElem?_set_self hl, if_pos ⟨rfl, hl⟩]; rfl
    · rw [if_neg (fun h => hl h.2), List.getElem?_eq_none (by rw [List.length_set]; omega), List.getElem?_eq_none (by omega)]
  · rw [List.getElem?_set_ne h, if_neg (fun h2 => h h2.1)]
theorem cycL_acy {σ : List Ty} {f : List Int → Nat → Option (Bool × List Int)} (hf : ∀ st v st', StOk σ st → f st v = some (false, st') → StOk σ st' ∧ Acy σ v) : ∀ (l st st' : List Int), StOk σ st → cycL f l st = some (false, st') → StOk σ st' ∧ ∀ w ∈ l, Acy σ w.toNat
  | [], st, st', h, e => by
    simp only [cycL, Option.some.injEq, Prod.mk.injEq, true_and] at e
    rw [← e]; exact ⟨h, fun w hw => by cases hw⟩
  | x :: r, st, st', h, e => by
    rw [cycL] at e
    split at e
    · cases e
    · cases e
    · rename_i s1 h1
      obtain ⟨h2, h3⟩ := hf st x.toNat s1 h h1
      obtain ⟨h4, h5⟩ := cycL_acy hf r s1 st' h2 e
      refine ⟨h4, fun w hw => ?_⟩
      rcases List.mem_cons.1 hw with rfl | hw
      · exact h3
      · exact h5 w hw
theorem cyc_acy {σ : List Ty} : ∀ (n : Nat) (st : List Int) (v : Nat) (st' : List Int), StOk σ st → cyc σ n st v = some (false, st') → StOk σ st' ∧ Acy σ v
  | 0, _, _, _, _, h => by cases h
  | n + 1, st, v, st', hs, h => by
    rw [cyc] at h
    split at h
    · rename_i h1
      simp only [Option.some.injEq, Prod.mk.injEq, decide_eq_false_iff_not] at h
      rw [← h.2]
      refine ⟨hs, ?_⟩
      rcases h1 with h1 | h1
      · exact (hs v h1).resolve_left h.1
      · exact .self v h1
    · split at h
      · cases h
      · cases h
      · rename_i s1 h2
        simp only [Option.some.injEq, Prod.mk.injEq, true_and] at h
        have hs1 : StOk σ (st.set v 1) := fun u hu => by
          rw [getD_set] at hu ⊢
          by_cases hc : v = u ∧ u < st.length
          · rw [if_pos hc]; exact .inl rfl
          · rw [if_neg hc] at hu ⊢; exact hs u hu
        obtain ⟨h3, h4⟩ := cycL_acy (fun a b c ha hb => cyc_acy n a b c ha hb) _ _ _ hs1 h2
        have ha : Acy σ v := .node v h4
        refine ⟨?_, ha⟩
        rw [← h]
        intro u hu
        rw [getD_set] at hu ⊢
        by_cases hc : v = u ∧ u < s1.length
        · rw [← hc.1]; exact .inr ha
        · rw [if_neg hc] at hu ⊢; exact h3 u hu
theorem cycS_acy {σ : List Ty} {k : Nat} : ∀ (l : List Nat) (st : List Int), StOk σ st → cycS σ k l st = some false → ∀ v ∈ l, Acy σ v
  | [], _, _, _ => fun v hv => by cases hv
  | x :: r, st, hs, h => by
    rw [cycS] at h
    split at h
    · cases h
    · cases h
    · rename_i s1 h1
      obtain ⟨h2, h3⟩ := cyc_acy k st x s1 hs h1
      intro v hv
      rcases List.mem_cons.1 hv with rfl | hv
      · exact h3
      · exact cycS_acy r s1 h2 h v hv
/-! ### It ends -/
def zeros (st : List Int) : Nat := st.countP fun x => decide (x ≤ 0)
theorem zeros_set_le : ∀ (st : List Int) (v : Nat) (x : Int), 0 < x → zeros (st.set v x) ≤ zeros st
  | [], _, _, _ => Nat.le_refl _
  | y :: r, 0, x, hx => by
    unfold zeros
    rw [List.set_cons_zero, List.countP_cons, List.countP_cons, if_neg (by simp; omega)]
    omega
  | y :: r, v + 1, x, hx => by
    have := zeros_set_le r v x hx
    unfold zeros at *
    rw [List.set_cons_succ, List.countP_cons, List.countP_cons]
    omega
theorem zeros_set_lt : ∀ (st : List Int) (v : Nat) (x : Int), 0 < x → v < st.length → st.getD v 0 ≤ 0 → zeros (st.set v x) < zeros st
  | [], _, _, _, h, _ => by simp at h
  | y :: r, 0, x, hx, _, h => by
    unfold zeros
    have hy : y ≤ 0 := h
    rw [List.set_cons_zero, List.countP_cons, List.countP_cons, if_neg (by simp; omega), if_pos (by simp; omega)]
    omega
  | y :: r, v + 1, x, hx, hl, h => by
    have := zeros_set_lt r v x hx (by simpa using hl) (by simpa using h)
    unfold zeros at *
    rw [List.set_cons_succ, List.countP_cons, List.countP_cons]
    omega
theorem cycL_total {f : List Int → Nat → Option (Bool × List Int)} {n m : Nat} (hf : ∀ st v, zeros st ≤ n → st.length = m → v < m → ∃ b st', f st v = some (b, st') ∧ zeros st' ≤ zeros st ∧ st'.length = m) : ∀ (l st : List Int), zeros st ≤ n → st.length = m → (∀ w ∈ l, w.toNat < m) → ∃ b st', cycL f l st = some (b, st') ∧ zeros st' ≤ zeros st ∧ st'.length = m
  | [], st, _, h, _ => ⟨false, st, rfl, Nat.le_refl _, h⟩
  | x :: r, st, hz, hl, hw => by
    obtain ⟨b, s1, h1, h2, h3⟩ := hf st x.toNat hz hl (hw x List.mem_cons_self)
    rw [cycL, h1]
    cases b
    · obtain ⟨b, s2, k1, k2, k3⟩ := cycL_total hf r s1 (by omega) h3 (fun w hw' => hw w (List.mem_cons_of_mem _ hw'))
      exact ⟨b, s2, k1, by omega, k3⟩
    · exact ⟨true, s1, rfl, h2, h3⟩
theorem freeAt_in {σ : List Ty} (hσ : SubIn σ) {v : Nat} : ∀ w ∈ freeAt σ v, w.toNat < σ.length := fun w hw => by
  unfold freeAt at hw
  split at hw
  · cases hw
  · rename_i x hx
    have := hσ x (List.mem_of_getElem? hx) w hw
    omega
theorem cyc_total {σ : List Ty} (hσ : SubIn σ) : ∀ (n : Nat) (st : List Int) (v : Nat), zeros st ≤ n → st.length = σ.length → v < σ.length → ∃ b st', cyc σ (n + 1) st v = some (b, st') ∧ zeros st' ≤ zeros st ∧ st'.length = σ.length
  | n, st, v, hz, hl, hv => by
    rw [cyc]
    split
    · exact ⟨_, st, rfl, Nat.le_refl _, hl⟩
    · rename_i h
      have h0 : st.getD v 0 ≤ 0 := by
        rcases Int.lt_or_le 0 (st.getD v 0) with h1 | h1
        · exact absurd (.inl h1) h
        · exact h1
      have hlt := zeros_set_lt st v 1 (by decide) (by omega) h0
      cases n with
      | zero => omega
      | succ n =>
        obtain ⟨b, s1, h1, h2, h3⟩ := cycL_total (n := n) (m := σ.length) (fun st v hz hl hv => cyc_total hσ n st v hz hl hv) (freeAt σ v) (st.set v 1) (by omega) (by rw [List.length_set]; exact hl) (freeAt_in hσ)
        rw [h1]
        cases b
        · exact ⟨false, s1.set v 2, rfl, by have := zeros_set_le s1 v 2 (by decide); omega, by rw [List.length_set]; exact h3⟩
        · exact ⟨true, s1, rfl, by omega, h3⟩
theorem cycS_total {σ : List Ty} (hσ : SubIn σ) (n : Nat) : ∀ (l : List Nat) (st : List Int), zeros st ≤ n → st.length = σ.length → (∀ v ∈ l, v < σ.length) → ∃ b, cycS σ (n + 1) l st = some b
  | [], _, _, _, _ => ⟨false, rfl⟩
  | x :: r, st, hz, hl, hv => by
    obtain ⟨b, s1, h1, h2, h3⟩ := cyc_total hσ n st x hz hl (hv x List.mem_cons_self)
    rw [cycS, h1]
    cases b
    · exact cycS_total hσ n r s1 (by omega) h3 (fun w hw => hv w (List.mem_cons_of_mem _ hw))
    · exact ⟨true, rfl⟩

/-! ### Induction where no variable leads to a cycle -/
def AcyT (σ : List Ty) (t : Ty) : Prop := ∀ v ∈ freeP t, Acy σ v.toNat
theorem acy_ind {σ : List Ty} {P : Ty → Prop} (hn : ∀ t, t.kind ≠ 0 → (∀ a ∈ t.args, P a) → P t) (hs : ∀ t, t.kind = 0 → (selfB σ t.var.toNat = true ∨ σ[t.var.toNat]? = none) → P t)
    (hb : ∀ t x, t.kind = 0 → selfB σ t.var.toNat = false → σ[t.var.toNat]? = some x → P x → P t) (t : Ty) (ht : AcyT σ t) : P t := by
  have hv : ∀ v, Acy σ v → ∀ t : Ty, t.kind = 0 → t.var.toNat = v → P t := by
    intro v h
    induction h with
    | self v h => exact fun t h0 he => hs t h0 (.inl (by rw [he]; exact h))
    | node v h ih =>
      intro t h0 he
      cases hsb : selfB σ v with
      | true => exact hs t h0 (.inl (by rw [he]; exact hsb))
      | false =>
        cases hx : σ[v]? with
        | none => exact hs t h0 (.inr (by rw [he]; exact hx))
        | some x =>
          have hfr : freeAt σ v = freeP x := by unfold freeAt; rw [hx]
          refine hb t x h0 (by rw [he]; exact hsb) (by rw [he]; exact hx) ?_
          have key : ∀ y : Ty, (∀ w ∈ freeP y, w ∈ freeAt σ v) → P y := ty_ind (P := fun y => (∀ w ∈ freeP y, w ∈ freeAt σ v) → P y) (fun y ihy hy => by
            by_cases h1 : y.kind = 0
            · exact ih y.var (hy _ (by rw [freeP_var h1]; exact List.mem_singleton.2 rfl)) y h1 rfl
            · exact hn y h1 fun a ha => ihy a ha fun w hw => hy w ((freeP_args h1).2 ⟨a, ha, hw⟩))
          exact key x (fun w hw => by rw [hfr]; exact hw)
  refine ty_ind (P := fun t => AcyT σ t → P t) (fun t ih h => ?_) t ht
  by_cases h0 : t.kind = 0
  · exact hv _ (h _ (by rw [freeP_var h0]; exact List.mem_singleton.2 rfl)) t h0 rfl
  · exact hn t h0 fun a ha => ih a ha fun v hv => h v ((freeP_args h0).2 ⟨a, ha, hv⟩)
theorem selfB_iff {σ : List Ty} {v : Nat} : selfB σ v = true ↔ ∃ x, σ[v]? = some x ∧ x.kind = 0 ∧ x.var = (v : Int) := by
  unfold selfB
  cases σ[v]? with
  | none => simp
  | some x => simp
/-- Numbers that serve for all of a list. -/
theorem list_bound {P : Ty → Nat → Prop} : ∀ l : List Ty, (∀ a ∈ l, ∃ K, ∀ k, K ≤ k → P a k) → ∃ K, ∀ k, K ≤ k → ∀ a ∈ l, P a k
  | [], _ => ⟨0, fun _ _ a ha => by cases ha⟩
  | a :: r, h => by
    obtain ⟨K1, h1⟩ := h a List.mem_cons_self
    obtain ⟨K2, h2⟩ := list_bound r (fun b hb => h b (List.mem_cons_of_mem _ hb))
    refine ⟨max K1 K2, fun k hk b hb => ?_⟩
    rcases List.mem_cons.1 hb with rfl | hb
    · exact h1 k (by omega)
    · exact h2 k (by omega) b hb
theorem sizeL_total {f : List Int → Ty → Option (Int × List Int)} : ∀ (l : List Ty) (n : Int) (of : List Int), (∀ a ∈ l, ∀ of, ∃ r, f of a = some r) → ∃ r, sizeL f l n of = some r
  | [], n, of, _ => ⟨_, rfl⟩
  | a :: r, n, of, h => by
    obtain ⟨⟨m, of1⟩, h1⟩ := h a List.mem_cons_self of
    rw [sizeL, h1]
    exact sizeL_total r _ _ (fun b hb => h b (List.mem_cons_of_mem _ hb))
theorem size_total {σ : List Ty} (hσ : SubIn σ) (t : Ty) (hv : VIn σ t) (ht : AcyT σ t) : ∃ K, ∀ k, K ≤ k → ∀ of, ∃ r, sizeP σ k of t = some r := by
  refine acy_ind (P := fun t => VIn σ t → ∃ K, ∀ k, K ≤ k → ∀ of, ∃ r, sizeP σ k of t = some r) (fun t h0 ih hv => ?_) (fun t h0 hs hv => ?_) (fun t x h0 hs hx ih hv => ?_) t ht hv
  · obtain ⟨K, hK⟩ := list_bound (P := fun a k => ∀ of, ∃ r, sizeP σ k of a = some r) t.args (fun a ha => ih a ha (hv.arg h0 ha))
    refine ⟨K + 1, fun k hk of => ?_⟩
    obtain ⟨k, rfl⟩ : ∃ k', k = k' + 1 := ⟨k - 1, by omega⟩
    rw [sizeP, if_neg h0]
    exact sizeL_total _ _ _ (fun a ha => hK k (by omega) a ha)
  · have hvl := hv t.var (by rw [freeP_var h0]; exact List.mem_singleton.2 rfl)
    refine ⟨1, fun k hk of => ?_⟩
    obtain ⟨k, rfl⟩ : ∃ k', k = k' + 1 := ⟨k - 1, by omega⟩
    rcases hs with hs | hs
    · obtain ⟨x, hx, h1, h2⟩ := selfB_iff.1 hs
      rw [sizeP, if_pos h0, hx]
      dsimp only
      rw [if_pos ⟨h1, by omega⟩]
      exact ⟨_, rfl⟩
    · rw [List.getElem?_eq_none_iff] at hs; omega
  · have hvl := hv t.var (by rw [freeP_var h0]; exact List.mem_singleton.2 rfl)
    obtain ⟨K, hK⟩ := ih (fun v hv' => hσ x (List.mem_of_getElem? hx) v hv')
    refine ⟨K + 1, fun k hk of => ?_⟩
    obtain ⟨k, rfl⟩ : ∃ k', k = k' + 1 := ⟨k - 1, by omega⟩
    rw [sizeP, if_pos h0, hx]
    dsimp only
    rw [if_neg (fun h => by
      have : selfB σ t.var.toNat = true := selfB_iff.2 ⟨x, hx, h.1, by omega⟩
      rw [hs] at this; cases this)]
    split
    · obtain ⟨⟨r, of'⟩, hr⟩ := hK k (by omega) of
      rw [hr]; exact ⟨_, rfl⟩
    · exact ⟨_, rfl⟩
theorem sizedL_total {σ : List Ty} {k : Nat} : ∀ (l : List Nat) (of : List Int), (∀ v ∈ l, ∀ of, ∃ r, sizeP σ k of (varT (v : Int)) = some r) → ∃ r, sizedL σ k l of = some r
  | [], _, _ => ⟨0, rfl⟩
  | v :: r, of, h => by
    obtain ⟨⟨m, of1⟩, h1⟩ := h v List.mem_cons_self of
    rw [sizedL, h1]
    dsimp only
    split
    · exact ⟨_, rfl⟩
    · exact sizedL_total r of1 (fun w hw => h w (List.mem_cons_of_mem _ hw))
theorem nat_bound {P : Nat → Nat → Prop} : ∀ n : Nat, (∀ v, v < n → ∃ K, ∀ k, K ≤ k → P v k) → ∃ K, ∀ k, K ≤ k → ∀ v, v < n → P v k
  | 0, _ => ⟨0, fun _ _ v hv => by omega⟩
  | n + 1, h => by
    obtain ⟨K1, h1⟩ := h n (by omega)
    obtain ⟨K2, h2⟩ := nat_bound n (fun v hv => h v (by omega))
    refine ⟨max K1 K2, fun k hk v hv => ?_⟩
    by_cases e : v = n
    · subst e; exact h1 k (by omega)
    · exact h2 k (by omega) v (by omega)
theorem stOk_zero (σ : List Ty) (n : Nat) : StOk σ (List.replicate n 0) := fun u hu => by
  rw [List.getD_eq_getElem?_getD, List.getElem?_replicate] at hu
  split at hu <;> exact absurd hu (by decide)
/-- A substitution that CheckSubst accepts. -/
structure Fine (σ : List Ty) : Prop where
  len : σ.length ≤ 4096
  ok : ∀ t ∈ σ, tyErr σ.length t = 0
  acy : ∀ v, v < σ.length → Acy σ v
theorem Fine.inn {σ : List Ty} (h : Fine σ) : SubIn σ := fun x hx => (tyErr_ok (h.ok x hx)).2
theorem Fine.sized {σ : List Ty} (h : Fine σ) : ∃ K, ∀ k, K ≤ k → ∃ r, sizedP σ k = some r := by
  obtain ⟨K, hK⟩ := nat_bound (P := fun v k => ∀ of, ∃ r, sizeP σ k of (varT (v : Int)) = some r) σ.length (fun v hv => size_total h.inn (varT (v : Int)) (fun w hw => by
    rw [freeP_var rfl, List.mem_singleton] at hw
    have : w = (v : Int) := hw
    omega) (fun w hw => by
    rw [freeP_var rfl, List.mem_singleton] at hw
    have : w = (v : Int) := hw
    subst this
    exact h.acy _ hv))
  exact ⟨K, fun k hk => sizedL_total _ _ fun v hv of => hK k hk v (List.mem_range.1 hv) of⟩
/-- CheckSubst ends; where it finds nothing wrong the substitution is fine. -/
theorem subC_total (σ : List Ty) : ∃ k r, subC σ k = some r ∧ (r = 0 → Fine σ) := by
  by_cases h1 : 4096 < σ.length
  · exact ⟨0, 2, by rw [subC, if_pos h1], fun h => absurd h (by decide)⟩
  by_cases h2 : tysErr σ.length σ = 0
  · have hσ : SubIn σ := fun x hx => (tyErr_ok (tysErr_ok h2 x hx)).2
    have hz : zeros (List.replicate σ.length 0) ≤ σ.length := by
      unfold zeros
      have := List.countP_le_length (p := fun x : Int => decide (x ≤ 0)) (l := List.replicate σ.length 0)
      rwa [List.length_replicate] at this
    have hc := fun n (hn : σ.length ≤ n) => cycS_total hσ n (List.range σ.length) (List.replicate σ.length 0) (by omega) (List.length_replicate) (fun v hv => List.mem_range.1 hv)
    obtain ⟨b, hb⟩ := hc σ.length (Nat.le_refl _)
    cases b
    · have hf : Fine σ := ⟨by omega, tysErr_ok h2, fun v hv => cycS_acy _ _ (stOk_zero σ _) hb v (List.mem_range.2 hv)⟩
      obtain ⟨K, hK⟩ := hf.sized
      obtain ⟨b2, hb2⟩ := hc (σ.length + K) (by omega)
      cases b2
      · obtain ⟨r, hr⟩ := hK (σ.length + K + 1) (by omega)
        exact ⟨σ.length + K + 1, r, by rw [subC, if_neg h1, if_neg (by rw [h2]; simp), hb2]; exact hr, fun _ => hf⟩
      · exact ⟨σ.length + K + 1, 8, by rw [subC, if_neg h1, if_neg (by rw [h2]; simp), hb2], fun h => absurd h (by decide)⟩
    · exact ⟨σ.length + 1, 8, by rw [subC, if_neg h1, if_neg (by rw [h2]; simp), hb], fun h => absurd h (by decide)⟩
  · exact ⟨0, _, by rw [subC, if_neg h1, if_pos h2], fun h => absurd h h2⟩
end Go.Proofs.YthchnabhbpdfgaaDoor
end
