/- unify.Apply in plain words. -/
import Derived.Test.YtjofndhbpglfgaaDoorUni
import Derived.Test.YtjofndhbpglfgaaDoorNormD
namespace Go.Proofs.YtjofndhbpglfgaaDoor
open Go.RowKit Go.Shelf

def mapO (f : Ty → Option Ty) : List Ty → Option (List Ty)
  | [] => some []
  | a :: l => match f a with
    | none => none
    | some b => match mapO f l with
      | none => none
      | some m => some (b :: m)
def applyP (σ : List Ty) (k : Nat) : Nat → Ty → Option Ty
  | 0, _ => none
  | q + 1, t => match walkP σ k t with
    | none => none
    | some r => if r.args.length = 0 then some r else match mapO (applyP σ k q) r.args with
      | none => none
      | some l => some (.mk r.kind r.name r.var l)
theorem mapO_cons {f : Ty → Option Ty} {a : Ty} {l m : List Ty} : mapO f (a :: l) = some m ↔ ∃ b m', f a = some b ∧ mapO f l = some m' ∧ m = b :: m' := by
  rw [mapO]
  cases f a with
  | none => simp
  | some b =>
    cases mapO f l with
    | none => simp
    | some m' => simp [eq_comm]
theorem mapO_len {f : Ty → Option Ty} : ∀ {l m : List Ty}, mapO f l = some m → m.length = l.length
  | [], m, h => by rw [mapO] at h; obtain rfl := Option.some.inj h; rfl
  | a :: l, m, h => by
    obtain ⟨b, m', _, h2, rfl⟩ := mapO_cons.1 h
    rw [List.length_cons, List.length_cons, mapO_len h2]
theorem mapO_snoc {f : Ty → Option Ty} {x y : Ty} (hx : f x = some y) : ∀ {l m : List Ty}, mapO f l = some m → mapO f (l ++ [x]) = some (m ++ [y])
  | [], m, h => by
    rw [mapO] at h; obtain rfl := Option.some.inj h
    exact mapO_cons.2 ⟨y, [], hx, rfl, rfl⟩
  | a :: l, m, h => by
    obtain ⟨b, m', h1, h2, rfl⟩ := mapO_cons.1 h
    exact mapO_cons.2 ⟨b, m' ++ [y], h1, mapO_snoc hx h2, rfl⟩
theorem mapO_at {f : Ty → Option Ty} : ∀ {l m : List Ty}, mapO f l = some m → ∀ (i : Nat) (hi : i < l.length), ∃ y, f l[i] = some y ∧ m[i]? = some y
  | [], m, h, i, hi => by simp at hi
  | a :: l, m, h, i, hi => by
    obtain ⟨b, m', h1, h2, rfl⟩ := mapO_cons.1 h
    cases i with
    | zero => exact ⟨b, h1, rfl⟩
    | succ i => exact mapO_at h2 i (by simpa using hi)
/-- Well-shaped: known kinds, the right number of arguments, no idle parts. -/
inductive Ty.Wf : Ty → Prop where
  | mk (k : Int) (n : ByteArray) (v : Int) (l : List Ty) (hk : 0 ≤ k ∧ k ≤ 5) (hs : 0 ≤ sz k → (l.length : Int) = sz k) (hv : k ≠ 0 → v = 0) (hn : k ≠ 1 → k ≠ 5 → n.toList.isEmpty = true) (h0 : k = 0 → 0 ≤ v) (hl : ∀ a ∈ l, Ty.Wf a) : Ty.Wf (.mk k n v l)
theorem Ty.Wf.varOk {t : Ty} (h : t.Wf) : VarOk t := by cases h with | mk k n v l hk hs hv hn h0 hl => exact h0
theorem Ty.Wf.arg {t : Ty} (h : t.Wf) {a : Ty} (ha : a ∈ t.args) : a.Wf := by cases h with | mk k n v l hk hs hv hn h0 hl => exact hl a ha
theorem Ty.Wf.two {t : Ty} (h : t.Wf) (hk : t.kind = 5) : ∃ a r, t.args = [a, r] := by
  cases h with
  | mk k n v l hk' hs hv hn h0 hl =>
    have hk2 : k = 5 := hk
    subst hk2
    have h2 : (l.length : Int) = 2 := hs (show (0 : Int) ≤ 2 by decide)
    match l, h2 with
    | [a, r], _ => exact ⟨a, r, rfl⟩
    | [], h => simp at h
    | [_], h => simp at h
    | _ :: _ :: _ :: _, h => simp only [List.length_cons] at h; omega
theorem Ty.Wf.leaf {t : Ty} (h : t.Wf) (hk : t.kind = 0 ∨ t.kind = 4) : t.args = [] := by
  cases h with
  | mk k n v l hk' hs hv hn h0 hl =>
    have e : sz k = 0 := by
      have hk2 : k = 0 ∨ k = 4 := hk
      rcases hk2 with rfl | rfl <;> rfl
    have h2 : (l.length : Int) = sz k := hs (by rw [e]; exact Int.le_refl _)
    rw [e] at h2
    have h3 : l.length = 0 := by omega
    exact List.eq_nil_of_length_eq_zero h3
theorem Ty.Wf.nok {t : Ty} (h : t.Wf) : t.Nok := by
  induction h with
  | mk k n v l hk hs hv hn h0 hl ih =>
    refine .mk k n v l (fun h5 => ?_) ih
    subst h5
    have h2 : (l.length : Int) = 2 := hs (show (0 : Int) ≤ 2 by decide)
    omega
mutual
theorem chk_wf : ∀ (t : Ty) (left : Int) (row : Bool) (depth : Int), (chk t left row depth).1 = 0 → t.Wf
  | .mk k n v l, left, row, depth, h => by
    rw [chk] at h
    split at h
    · exact absurd (show (2 : Int) = 0 from h) (by decide)
    split at h
    · exact absurd (show (9 : Int) = 0 from h) (by decide)
    split at h
    · exact absurd (show (3 : Int) = 0 from h) (by decide)
    split at h
    · exact absurd (show (9 : Int) = 0 from h) (by decide)
    split at h
    · exact absurd (show (4 : Int) = 0 from h) (by decide)
    · rename_i h1 h2 h3 h4 h5
      refine .mk k n v l (by omega) (fun hs => ?_) (fun hk => ?_) (fun e1 e5 => ?_) (fun e0 => by omega) (chks_wf k l 0 (left - 1) (depth + 1) h)
      · exact Classical.byContradiction fun he => h3 (.inl ⟨hs, he⟩)
      · exact Classical.byContradiction fun he => h3 (.inr (.inl ⟨hk, he⟩))
      · cases he : n.toList.isEmpty with
        | true => rfl
        | false => exact absurd (.inr (.inr ⟨e1, e5, he⟩)) h3
theorem chks_wf (k : Int) : ∀ (l : List Ty) (i : Nat) (left depth : Int), (chks k l i left depth).1 = 0 → ∀ a ∈ l, a.Wf
  | [], _, _, _, _ => fun a ha => by cases ha
  | a :: r, i, left, depth, h => by
    rw [chks] at h
    split at h
    · rename_i hz
      intro b hb
      rcases List.mem_cons.1 hb with e | hb
      · rw [e]; exact chk_wf a _ _ _ hz
      · exact chks_wf k r (i + 1) _ depth h b hb
    · rename_i hz
      exact absurd h hz
end
theorem walk_fine {σ : List Ty} {N : Nat} (hσ : ∀ x ∈ σ, x.Wf ∧ nodes x ≤ N) : ∀ (k : Nat) (t r : Ty), t.Wf → nodes t ≤ N → walkP σ k t = some r → r.Wf ∧ nodes r ≤ N
  | 0, _, _, _, _, h => by cases h
  | k + 1, t, r, h1, h2, h => by
    rw [walkP] at h
    split at h
    · split at h
      · cases h
      · rename_i x hx
        split at h
        · rw [← Option.some.inj h]; exact ⟨h1, h2⟩
        · have h3 := hσ x (List.mem_of_getElem? hx)
          exact walk_fine hσ k x r h3.1 h3.2 h
    · rw [← Option.some.inj h]; exact ⟨h1, h2⟩
end Go.Proofs.YtjofndhbpglfgaaDoor
