/- unify.Norm in plain words; its comparison. No conditions. -/
import Derived.Test.YthchnabhbpdfgaaDoorMStabTy
import Derived.Test.YthchnabhbpdfgaaDoorMBind
import Derived.Laws.Cover1
import Derived.Sort.Walk0
namespace Go.Proofs.YthchnabhbpdfgaaDoor
open Go.RowKit Go.Shelf Go.Sort Stab

/-! ### Comparing names -/
def sLt (a b : ByteArray) : Bool := Op.bytesLess a.toList b.toList
def cmpS (a b : ByteArray) : Int := if sLt a b then -1 else if a.toList == b.toList then 0 else 1
def vS : Value → ByteArray
  | .string s => s
  | _ => ⟨#[]⟩
def cfTy (x y : V4) : Int := cmpS (vS x.e1) (vS y.e1)
theorem cmpS_neg {a b : ByteArray} : decide (cmpS a b < 0) = sLt a b := by
  unfold cmpS
  cases h : sLt a b
  · rw [if_neg (by simp)]
    split <;> simp
  · rw [if_pos rfl]; rfl
theorem sLt_iff {a b : ByteArray} : sLt a b = true ↔ a.toList < b.toList := by unfold sLt; rw [bytesLess_eq, decide_eq_true_eq]
theorem sLt_weak : Weak sLt := by
  refine ⟨fun a b c => ?_, fun a b c => ?_, fun a => ?_⟩
  · rw [sLt_iff, sLt_iff, sLt_iff]; exact List.lt_trans
  · simp only [← Bool.not_eq_true, sLt_iff, List.not_lt]
    exact fun h1 h2 => List.le_trans h1 h2
  · rw [← Bool.not_eq_true, sLt_iff]; exact List.lt_irrefl _
theorem ltTy (x y : V4) : ltOf cfTy x y = sLt (vS x.e1) (vS y.e1) := by unfold ltOf cfTy; exact cmpS_neg
theorem weakTy : Weak (ltOf cfTy) := by
  refine ⟨fun a b c => ?_, fun a b c => ?_, fun a => ?_⟩
  · rw [ltTy, ltTy, ltTy]; exact sLt_weak.tr _ _ _
  · rw [ltTy, ltTy, ltTy]; exact sLt_weak.nt _ _ _
  · rw [ltTy]; exact sLt_weak.ir _
set_option maxHeartbeats 400000 in
theorem isNaNStr (a : ByteArray) (W : World) : Calls Tryd.prog 42 #[.string a] W fun e w' => e = .returned (.bool false) ∧ w' = W := by
  have h : (a.toList == a.toList) = true := by simp
  go_enter Tryd.func42, Tryd.ntmps42
  go_wp2
  go_ret
  exact ⟨rfl, rfl⟩
set_option maxHeartbeats 1000000 in
theorem cmpStr (a b : ByteArray) (W : World) : Calls Tryd.prog 34 #[.string a, .string b] W fun e w' => e = .returned (.int .i64 (cmpS a b)) ∧ w' = W := by
  cases h1 : sLt a b
  · have h1' : Op.bytesLess a.toList b.toList = false := h1
    cases h2 : a.toList == b.toList
    · have HE : Hid (cmpS a b = 1) := by show _ = _; unfold cmpS; rw [h1, h2]; rfl
      clear h1
      go_enter Tryd.func34, Tryd.ntmps34
      go_wp2_with ((go_at_call 42; with_reducible refine (isNaNStr _ _).mono ?_); rintro e w1 ⟨rfl, rfl⟩)
      go_ret
      exact ⟨ret_int HE.out.symm, rfl⟩
    · have HE : Hid (cmpS a b = 0) := by show _ = _; unfold cmpS; rw [h1, h2]; rfl
      clear h1
      go_enter Tryd.func34, Tryd.ntmps34
      go_wp2_with ((go_at_call 42; with_reducible refine (isNaNStr _ _).mono ?_); rintro e w1 ⟨rfl, rfl⟩)
      go_ret
      exact ⟨ret_int HE.out.symm, rfl⟩
  · have h1' : Op.bytesLess a.toList b.toList = true := h1
    have HE : Hid (cmpS a b = -1) := by show _ = _; unfold cmpS; rw [h1]; rfl
    clear h1
    go_enter Tryd.func34, Tryd.ntmps34
    go_wp2_with ((go_at_call 42; with_reducible refine (isNaNStr _ _).mono ?_); rintro e w1 ⟨rfl, rfl⟩)
    go_ret
    exact ⟨ret_int HE.out.symm, rfl⟩
set_option maxHeartbeats 4000000 in
theorem cmpTy (x y : V4) (W : World) (hx : FmTy x) (hy : FmTy y) : Calls Tryd.prog 33 #[x.agg, y.agg] W fun e w' => e = .returned (.int .i64 (cfTy x y)) ∧ Below W.heap.size W w' := by
  obtain ⟨xa, xb, xc, xd, xe, xf, rfl⟩ := hx
  obtain ⟨ya, yb, yc, yd, ye, yf, rfl⟩ := hy
  have HE : Hid (cfTy ⟨.int .i64 xa, .string xb, .int .i64 xc, .slice xd xe xf⟩ ⟨.int .i64 ya, .string yb, .int .i64 yc, .slice yd ye yf⟩ = cmpS xb yb) := rfl
  unfold V4.agg
  dsimp only
  go_enter Tryd.func33, Tryd.ntmps33
  go_wp2_with ((go_at_call 34; with_reducible refine (cmpStr _ _ _).mono ?_); rintro e w1 ⟨rfl, rfl⟩)
  go_ret
  exact ⟨ret_int HE.out.symm, ((Below.refl _ _).alloc (Nat.le_refl _) _).alloc (by simp) _⟩

/-! ### Norm -/
def lab (n : ByteArray) (t : Ty) : Ty := .mk 0 n 0 [t]
def ltL (x y : ByteArray × Ty) : Bool := sLt x.1 y.1
def fin (p : List (ByteArray × Ty) × Ty) : Ty := (isort ltL p.1).foldr (fun x out => extT x.1 x.2 out) p.2
mutual
/-- The labels of a row with their types, and its end; of another type no labels. -/
def rowP : Ty → List (ByteArray × Ty) × Ty
  | .mk k n v l => if k = 5 then (match rowPs l with
      | [a, r] => ((n, fin a) :: r.1, r.2)
      | _ => ([], .mk k n v [])) else ([], .mk k n v ((rowPs l).map fin))
def rowPs : List Ty → List (List (ByteArray × Ty) × Ty)
  | [] => []
  | a :: r => rowP a :: rowPs r
end
def normP (t : Ty) : Ty := fin (rowP t)
theorem rowPs_map : ∀ l : List Ty, rowPs l = l.map rowP
  | [] => rfl
  | a :: r => by rw [rowPs, List.map_cons, rowPs_map r]
theorem rowP_ext {t a r : Ty} (hk : t.kind = 5) (hl : t.args = [a, r]) : rowP t = ((t.name, normP a) :: (rowP r).1, (rowP r).2) := by
  cases t with
  | mk k n v l =>
    simp only [Ty.kind, Ty.args, Ty.name] at *
    subst hk hl
    rw [rowP, if_pos rfl]
    rfl
theorem rowP_not {t : Ty} (hk : t.kind ≠ 5) : rowP t = ([], .mk t.kind t.name t.var (t.args.map normP)) := by
  cases t with
  | mk k n v l =>
    simp only [Ty.kind, Ty.args, Ty.name, Ty.var] at *
    rw [rowP, if_neg hk, rowPs_map, List.map_map]
    rfl
theorem nodes_eq (t : Ty) : nodes t = nodess t.args + 1 := by cases t with | mk k n v l => rw [nodes]; rfl
theorem nodess_len : ∀ l : List Ty, l.length ≤ nodess l
  | [] => Nat.zero_le _
  | a :: r => by
    have := nodess_len r
    have := nodes_eq a
    rw [nodess, List.length_cons]; omega
/-- Rows with a label have two arguments. -/
inductive Ty.Nok : Ty → Prop where
  | mk (k : Int) (n : ByteArray) (v : Int) (l : List Ty) (h : k = 5 → l.length = 2) (hl : ∀ a ∈ l, Ty.Nok a) : Ty.Nok (.mk k n v l)
theorem Ty.Nok.two {t : Ty} (h : t.Nok) (hk : t.kind = 5) : ∃ a r, t.args = [a, r] := by
  cases h with
  | mk k n v l h hl =>
    have h2 := h hk
    match l, h2 with
    | [a, r], _ => exact ⟨a, r, rfl⟩
theorem Ty.Nok.arg {t : Ty} (h : t.Nok) {a : Ty} (ha : a ∈ t.args) : a.Nok := by
  cases h with
  | mk k n v l h hl => exact hl a ha
theorem nmerge_map {α β : Type} (f : α → β) (less : β → β → Bool) : ∀ (n : Nat) (l r : List α), l.length + r.length = n → Stab.merge less (l.map f) (r.map f) = (Stab.merge (fun x y => less (f x) (f y)) l r).map f
  | _, [], r, _ => by rw [Stab.merge_nil_left]; exact Stab.merge_nil_left _
  | _, x :: l, [], _ => by rw [Stab.merge_nil_right]; exact Stab.merge_nil_right _
  | 0, x :: l, y :: r, h => by simp at h
  | n + 1, x :: l, y :: r, h => by
    simp only [List.length_cons] at h
    rw [List.map_cons, List.map_cons, Stab.merge_cons, Stab.merge_cons]
    split
    · rw [List.map_cons, ← nmerge_map f less n (x :: l) r (by simp only [List.length_cons]; omega)]; rfl
    · rw [List.map_cons, ← nmerge_map f less n l (y :: r) (by simp only [List.length_cons]; omega)]; rfl
theorem nisort_map {α β : Type} (f : α → β) (less : β → β → Bool) : ∀ l : List α, Stab.isort less (l.map f) = (Stab.isort (fun x y => less (f x) (f y)) l).map f
  | [] => rfl
  | x :: l => by
    show Stab.merge less [f x] (Stab.isort less (l.map f)) = (Stab.merge _ [x] (Stab.isort _ l)).map f
    rw [nisort_map f less l]
    exact nmerge_map f less _ [x] _ rfl
/-! ### Pairs: a type and its slice of arguments -/
def pv4 (p : Ty × Value) : V4 := ⟨.int .i64 p.1.kind, .string p.1.name, .int .i64 p.1.var, p.2⟩
theorem pv4_cells (p : Ty × Value) : (pv4 p).cells = p.1.cells p.2 := rfl
theorem prs_rp {w : World} {F : Nat → Prop} : ∀ {P : List (Ty × Value)}, (∀ p ∈ P, TyC w F p.1 p.2) → RpAll w F ((P.map Prod.fst).map tyD) ((P.map pv4).flatMap V4.cells)
  | [], _ => by simp [RpAll]
  | p :: P, h => by
    simp only [List.map_cons, rpAll_cons, List.flatMap_cons]
    exact ⟨_, _, rfl, tyD.rp.2 ⟨p.2, rfl, h p List.mem_cons_self⟩, prs_rp (fun q hq => h q (List.mem_cons_of_mem _ hq))⟩
theorem pv4_form {w : World} {F : Nat → Prop} {p : Ty × Value} (h : TyC w F p.1 p.2) : FmTy (pv4 p) := by
  obtain ⟨A, c, e, _⟩ := h.form
  exact ⟨p.1.kind, p.1.name, p.1.var, A, p.1.args.length, c, by unfold pv4; rw [e]⟩
/-- What Norm returns. -/
def NormPost (r : Ty) (W : World) (e : Ending) (w' : World) : Prop := ∃ A c, e = .returned (.agg #[.int .i64 r.kind, .string r.name, .int .i64 r.var, .slice A r.args.length c]) ∧ TyC w' (fun b => W.heap.size ≤ b ∧ b < w'.heap.size) r (.slice A r.args.length c) ∧ Keeps (fun _ => False) W w'
def labT (x : ByteArray × Ty) : Ty := lab x.1 x.2
theorem sorted_pairs {Q : List (Ty × Value)} {L : List (ByteArray × Ty)} (h : Q.map Prod.fst = L.map labT) : (Stab.isort (fun p q => ltOf cfTy (pv4 p) (pv4 q)) Q).map Prod.fst = (Stab.isort ltL L).map labT := by
  have e : (fun p q : Ty × Value => ltOf cfTy (pv4 p) (pv4 q)) = fun p q => (fun a b : Ty => sLt a.name b.name) p.1 q.1 := by
    funext p q
    rw [ltTy]; rfl
  rw [e, ← nisort_map Prod.fst (fun a b : Ty => sLt a.name b.name) Q, h, nisort_map]
  rfl
end Go.Proofs.YthchnabhbpdfgaaDoor
