/- UnifyOccurs, in plain words: with the identity a variable does not unify with a type in which it occurs, and a type unifies with itself and changes nothing. -/
import Derived.Test.YthchnabhbpdfgaaDoorUni
import Derived.Test.YthchnabhbpdfgaaDoorUIdent
import Derived.Test.YthchnabhbpdfgaaDoorMBind
namespace Go.Proofs.YthchnabhbpdfgaaDoor
open Go.RowKit Go.Shelf

/-! ### Valid types -/
def Okt (t : Ty) : Prop := ∃ (left : Int) (row : Bool) (depth : Int), (chk t left row depth).1 = 0
theorem chks_mem (k : Int) : ∀ (l : List Ty) (i : Nat) (left depth : Int), (chks k l i left depth).1 = 0 → ∀ a ∈ l, Okt a
  | [], _, _, _, _, a, ha => by simp at ha
  | b :: r, i, left, depth, h, a, ha => by
    rw [chks] at h
    split at h
    · rename_i hz
      rcases List.mem_cons.1 ha with rfl | ha
      · exact ⟨_, _, _, hz⟩
      · exact chks_mem k r _ _ _ h a ha
    · rename_i hz
      exact absurd h hz
theorem Okt.parts {t : Ty} (h : Okt t) : (t.kind = 5 → t.args.length = 2) ∧ ∀ a ∈ t.args, Okt a := by
  obtain ⟨left, row, depth, h⟩ := h
  cases t with
  | mk k n v l =>
  rw [chk] at h
  split at h
  · exact absurd (show (2 : Int) = 0 from h) (by decide)
  split at h
  · exact absurd (show (9 : Int) = 0 from h) (by decide)
  split at h
  · exact absurd (show (3 : Int) = 0 from h) (by decide)
  rename_i h3
  split at h
  · exact absurd (show (9 : Int) = 0 from h) (by decide)
  split at h
  · exact absurd (show (4 : Int) = 0 from h) (by decide)
  refine ⟨fun h5 => ?_, fun a ha => chks_mem k l _ _ _ h a ha⟩
  have h5' : k = 5 := h5
  subst h5'
  by_cases hl : (l.length : Int) = 2
  · show l.length = 2
    omega
  · exact absurd (.inl ⟨by decide, by simpa [sz] using hl⟩) h3

/-! ### The identity -/
theorem varT_kind (v : Int) : (varT v).kind = 0 := rfl
theorem varT_var (v : Int) : (varT v).var = v := rfl
theorem occT_kind (v : Nat) (l : List Ty) : (conT ⟨#[76]⟩ (varT (v : Int) :: l)).kind = 1 := rfl
theorem id_self {n v : Nat} (h : v < n) : selfB (idS n) v = true := by
  unfold selfB
  rw [idS_get h]
  simp [varT, Ty.kind, Ty.var]
theorem cycS_id (n k : Nat) : ∀ l : List Nat, (∀ v ∈ l, v < n) → cycS (idS n) (k + 1) l (List.replicate n 0) = some false
  | [], _ => rfl
  | v :: l, h => by
    have hv := h v (by simp)
    have hg : (List.replicate n (0 : Int)).getD v 0 = 0 := by simp [List.getD_eq_getElem?_getD, hv]
    rw [cycS, cyc, if_pos (.inr (id_self hv)), hg]
    exact cycS_id n k l fun w hw => h w (by simp [hw])
theorem sizeP_id (n k : Nat) {v : Nat} (h : v < n) (of : List Int) : sizeP (idS n) (k + 1) of (varT (v : Int)) = some (1, of) := by
  rw [sizeP, if_pos (varT_kind _)]
  have e : (varT (v : Int)).var.toNat = v := by simp [varT, Ty.var]
  rw [e, idS_get h]
  simp [varT, Ty.kind, Ty.var]
theorem sizedL_id (n k : Nat) : ∀ (l : List Nat) (of : List Int), (∀ v ∈ l, v < n) → sizedL (idS n) (k + 1) l of = some 0
  | [], _, _ => rfl
  | v :: l, of, h => by
    rw [sizedL, sizeP_id n k (h v (by simp))]
    exact sizedL_id n k l of fun w hw => h w (by simp [hw])
theorem chk_var {v : Nat} (h : v < 4096) (left : Int) (hl : 1 ≤ left) (depth : Int) (hd : depth ≤ 400) (row : Bool) : chk (varT (v : Int)) left row depth = (0, left - 1) := by
  rw [varT, chk, if_neg (by omega), if_neg (by omega), if_neg, if_neg (by rintro ⟨h, _⟩; exact h rfl), if_neg (by omega), chks]
  rintro (h1 | h1 | h1)
  · exact h1.2 (by simp [sz])
  · exact h1.1 rfl
  · exact absurd h1.2.2 (by simp [ByteArray.toList_eq])
theorem tyErr_var {n v : Nat} (h : v < n) (hn : n ≤ 4096) : tyErr n (varT (v : Int)) = 0 := by
  unfold tyErr
  rw [chk_var (by omega) _ (by decide) _ (by decide), if_neg (by simp), if_neg]
  rw [freeP_var rfl]
  simp [varT, Ty.var]
  omega
theorem tysErr_zero {n : Nat} : ∀ l : List Ty, (∀ t ∈ l, tyErr n t = 0) → tysErr n l = 0
  | [], _ => rfl
  | a :: r, h => by rw [tysErr, h a (by simp), if_neg (by simp)]; exact tysErr_zero r fun t ht => h t (by simp [ht])
theorem subC_id (n k : Nat) (hn : n ≤ 4096) : subC (idS n) (k + 1) = some 0 := by
  have hz : tysErr n (idS n) = 0 := tysErr_zero _ fun t ht => by
    unfold idS at ht
    obtain ⟨i, hi, rfl⟩ := List.mem_map.1 ht
    exact tyErr_var (List.mem_range.1 hi) hn
  rw [subC, idS_len, if_neg (by omega), hz, if_neg (by simp), cycS_id n k _ (fun v hv => List.mem_range.1 hv)]
  show sizedP (idS n) (k + 1) = some 0
  unfold sizedP
  rw [idS_len]
  exact sizedL_id n k _ _ (fun v hv => List.mem_range.1 hv)
theorem walk_id (n k : Nat) (t : Ty) (h : VIn (idS n) t) : walkP (idS n) (k + 1) t = some t := by
  rw [walkP]
  by_cases h0 : t.kind = 0
  · obtain ⟨h1, h2⟩ := h t.var (by rw [freeP_var h0]; simp)
    rw [idS_len] at h2
    rw [if_pos ⟨h0, by rw [idS_len]; exact h2⟩, idS_get (by omega : t.var.toNat < n)]
    dsimp only
    rw [if_pos ⟨varT_kind _, by show ((t.var.toNat : Nat) : Int) = t.var; omega⟩]
  · rw [if_neg (fun h => h0 h.1)]

/-! ### A type and itself -/
theorem tail_id (n k : Nat) : ∀ (q : Nat) (t : Ty), VIn (idS n) t → Okt t → nodes t ≤ q → ∃ r, tailL (idS n) (k + 1) q t = some r
  | 0, t, _, _, h => by cases t; simp [nodes] at h
  | q + 1, t, hv, ho, hq => by
    rw [tailL]
    by_cases h5 : t.kind = 5
    · rw [if_pos h5]
      have hl := ho.parts.1 h5
      match hcar : t.args, hl with
      | [x, y], _ =>
        have hvy : VIn (idS n) y := hv.arg (by rw [h5]; decide) (by rw [hcar]; simp)
        show ∃ r, (match walkP (idS n) (k + 1) y with | none => none | some y' => tailL (idS n) (k + 1) q y') = some r
        rw [walk_id n k y hvy]
        refine tail_id n k q y hvy (ho.parts.2 y (by rw [hcar]; simp)) ?_
        cases t with
        | mk kk nn vv l =>
          have : l = [x, y] := hcar
          subst this
          simp [nodes, nodess] at hq
          omega
    · rw [if_neg h5]; exact ⟨_, rfl⟩
theorem unifyL_id {f : List Ty → Ty → Ty → Option (Int × List Ty)} (σ : List Ty) : ∀ l : List Ty, (∀ a ∈ l, f σ a a = some (0, σ)) → unifyL f l l σ = some (0, σ)
  | [], _ => rfl
  | a :: l, h => by
    rw [unifyL, h a (by simp)]
    exact unifyL_id σ l fun b hb => h b (by simp [hb])
theorem nodes_arg {t a : Ty} (h : a ∈ t.args) : nodes a + 1 ≤ nodes t := by
  cases t with
  | mk k n v l => have := nodess_mem l a h; rw [nodes]; omega
theorem unify_self (n k : Nat) : ∀ (q : Nat) (t : Ty), VIn (idS n) t → Okt t → nodes t ≤ q → nodes t ≤ k → unifyP (k + 1) q (idS n) t t = some (0, idS n)
  | 0, t, _, _, h, _ => by cases t; simp [nodes] at h
  | q + 1, t, hv, ho, hq, hk => by
    rw [unifyP, walk_id n k t hv]
    dsimp only
    by_cases h0 : t.kind = 0
    · rw [if_pos h0, bindP, if_pos ⟨h0, rfl⟩]
    · rw [if_neg h0, if_neg h0]
      have ih : ∀ a ∈ t.args, unifyP (k + 1) q (idS n) a a = some (0, idS n) := fun a ha => by
        have := nodes_arg ha
        exact unify_self n k q a (hv.arg h0 ha) (ho.parts.2 a ha) (by omega) (by omega)
      by_cases h5 : t.kind = 5
      · rw [if_pos ⟨h5, by omega⟩, rowsP]
        obtain ⟨r, hr⟩ := tail_id n k (k + 1) t hv ho (by omega)
        have htl : tailP (idS n) (k + 1) t = some r := by rw [tailP, walk_id n k t hv]; exact hr
        rw [htl]
        dsimp only
        have hl := ho.parts.1 h5
        match hcar : t.args, hl with
        | [x, y], _ =>
          have hex : extractP (k + 1) t.name r (k + 1) (idS n) t = some (x, y, 0, idS n) := by
            rw [extractP, walk_id n k t hv]
            dsimp only
            rw [if_neg h0, if_neg (fun h => h h5), hcar]
            simp
          rw [hex]
          dsimp only
          rw [ih x (by rw [hcar]; simp)]
          simp only [ne_eq, not_true_eq_false, ite_false]
          exact ih y (by rw [hcar]; simp)
      · rw [if_neg (fun h => h5 h.1), if_neg (by simp)]
        exact unifyL_id _ _ ih

/-! ### What the law asks for -/
def nameL : ByteArray := ⟨#[76]⟩
def occT (v : Nat) (l : List Ty) : Ty := conT nameL (varT (v : Int) :: l)
theorem occ_yes (n k v : Nat) (a : List Ty) (s : List Bool) : occP (idS n) (v : Int) (k + 2) s (occT v a) = some (true, s) := by
  rw [occP, if_neg (show ¬ (occT v a).kind = 0 from (by decide : ¬ (1 : Int) = 0))]
  show occL _ (varT (v : Int) :: a) s = _
  rw [occL, occP, if_pos (varT_kind _), if_pos (.inl (varT_var _)), varT_var]
  simp
theorem tyErr_occ0 : tyErr 12 (occT 0 []) = 0 := by
  have hc : chk (occT 0 []) 4096 false 1 = (0, 4094) := by
    rw [occT, conT, chk, if_neg (by omega), if_neg (by omega), if_neg, if_neg (by simp), if_neg (by omega), chks, chk_var (v := 0) (by omega) _ (by omega) _ (by omega), if_pos rfl, chks]
    · rfl
    · rintro (h1 | h1 | h1)
      · exact absurd h1.1 (by decide)
      · exact h1.2 rfl
      · exact h1.1 rfl
  unfold tyErr
  rw [show (decide (4 ≤ (occT 0 []).kind)) = false from rfl, hc, if_neg (by simp), if_neg]
  rw [show freeP (occT 0 []) = [0] from by
    rw [occT, conT, freeP, if_neg (by decide), frees, frees, freeP_var (varT_kind _)]; rfl]
  simp
theorem unify_occ (n k q v : Nat) (a : List Ty) (hv : v < n) (hn : n ≤ 4096) (h : tyErr n (occT v a) = 0) : unifyS (k + 2) (q + 1) (idS n) (varT (v : Int)) (occT v a) = some (8, idS n) := by
  have hx : VIn (idS n) (occT v a) := by
    have := (tyErr_ok h).2
    intro w hw
    rw [idS_len]
    exact this w hw
  have hvv : VIn (idS n) (varT (v : Int)) := fun w hw => by
    rw [freeP_var rfl] at hw
    rw [List.mem_singleton.1 hw, idS_len]
    show (0 : Int) ≤ (v : Int) ∧ (v : Int) < (n : Int)
    omega
  rw [unifyS, subC_id n (k + 1) hn]
  dsimp only
  rw [idS_len, tyErr_var hv hn, h, if_neg (by simp), if_neg (by simp), if_neg (by simp), unifyP, walk_id n (k + 1) _ hvv, walk_id n (k + 1) _ hx]
  dsimp only
  rw [if_pos (varT_kind _), bindP, if_neg (fun h => absurd h.1 (show ¬ (1 : Int) = 0 by decide))]
  have e : (varT (v : Int)).var = (v : Int) := rfl
  rw [e, occ_yes n k v a]
theorem unify_same (n k : Nat) (t : Ty) (hn : n ≤ 4096) (h : tyErr n t = 0) (hk : nodes t ≤ k) : unifyS (k + 1) (k + 1) (idS n) t t = some (0, idS n) := by
  have hx : VIn (idS n) t := by
    have := (tyErr_ok h).2
    intro w hw
    rw [idS_len]
    exact this w hw
  have ho : Okt t := by
    unfold tyErr at h
    split at h
    · rename_i h1; exact absurd h h1
    · rename_i h1; exact ⟨_, _, _, Classical.not_not.1 h1⟩
  rw [unifyS, subC_id n k hn]
  dsimp only
  rw [idS_len, h, if_neg (by simp), if_neg (by simp), if_neg (by simp)]
  exact unify_self n k (k + 1) t hx ho (by omega) hk
end Go.Proofs.YthchnabhbpdfgaaDoor
