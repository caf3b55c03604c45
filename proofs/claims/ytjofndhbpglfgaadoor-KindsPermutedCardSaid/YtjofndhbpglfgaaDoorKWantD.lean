/- kinds: want in plain words; the parts of a type in memory. -/
import Derived.Test.YtjofndhbpglfgaaDoorKStart
namespace Go.Proofs.YtjofndhbpglfgaaDoor
open Go.RowKit Go.Shelf

/-! ### Parts: a type and the slot of its kind -/
def partD (x : Ty × Nat) : D := .agg [tyD x.1, .int .i64 (x.2 : Int)]
theorem partD.rp {w : World} {F : Nat → Prop} {x : Ty × Nat} {cs : List Value} : Rp w F (partD x) cs ↔ ∃ av, cs = x.1.cells av ++ [.int .i64 (x.2 : Int)] ∧ TyC w F x.1 av ∧ (Lit.int .i64 (x.2 : Int)).wf = true := by
  unfold partD
  rw [rp_agg]; simp only [rpAll_cons, rpAll_nil, rp_int]
  constructor
  · rintro ⟨a, b, rfl, h1, c, d, rfl, ⟨rfl, h2⟩, rfl⟩
    obtain ⟨av, rfl, h3⟩ := tyD.rp.1 h1
    exact ⟨av, by simp, h3, h2⟩
  · rintro ⟨av, rfl, h1, h2⟩
    exact ⟨_, _, rfl, tyD.rp.2 ⟨av, rfl, h1⟩, [_], [], rfl, ⟨rfl, h2⟩, rfl⟩
theorem partD.wide : Wide partD 5 := fun w F x cs h => by
  obtain ⟨av, rfl, _⟩ := partD.rp.1 h
  rfl
theorem partD.get {w : World} {F : Nat → Prop} {l : List (Ty × Nat)} {A : Option Addr} {n c : Nat} (h : Sl w F partD l (.slice A n c)) {i : Nat} (hi : i < l.length) :
    ∃ (g off : Nat) (v : Value), A = some ⟨g, off, none⟩ ∧ F g ∧ w.cell? ⟨g, off + i * 5, none⟩ = some (.int .i64 l[i].1.kind) ∧ w.cell? ⟨g, off + i * 5 + 1, none⟩ = some (.string l[i].1.name) ∧
      w.cell? ⟨g, off + i * 5 + 2, none⟩ = some (.int .i64 l[i].1.var) ∧ w.cell? ⟨g, off + i * 5 + 3, none⟩ = some v ∧ w.cell? ⟨g, off + i * 5 + 4, none⟩ = some (.int .i64 (l[i].2 : Int)) ∧ TyC w F l[i].1 v := by
  obtain ⟨g, off, cs, hA, hg, hr, _, hc⟩ := Sl.get h partD.wide hi
  obtain ⟨v, rfl, h1, _⟩ := partD.rp.1 hr
  exact ⟨g, off, v, hA, hg, hc 0 _ rfl, hc 1 _ rfl, hc 2 _ rfl, hc 3 _ rfl, hc 4 _ rfl, h1⟩

/-! ### want -/
/-- The parts of a type, or what is wrong with it. -/
def partsP (datas : List DataSig) (first : List Nat) (t : Ty) (slot : Nat) : Except Int (List (Ty × Nat)) :=
  if t.kind = 1 then match findD datas first t.name with
    | none => .error 6
    | some l => if l.length ≠ t.args.length then .error 9 else .ok (t.args.zip l)
  else if t.kind = 2 then match t.args with
    | [a, b, c] => .ok [(a, 0), (b, 2), (c, 0)]
    | _ => .ok []
  else if t.kind = 3 then match t.args with
    | [a] => .ok [(a, 1)]
    | _ => .ok []
  else if t.kind = 5 then match t.args with
    | [a, b] => .ok [(a, 0), (b, slot)]
    | _ => .ok []
  else .ok []
abbrev St := List Nat × List Int
/-- What a type itself asks of its slot. -/
noncomputable def headP (t : Ty) (slot : Nat) (s : St) : Int × St :=
  if t.kind ≤ 3 then (joinE s.1 s.2 slot 0, joinU s.1 s.2 slot 0, joinK s.1 s.2 slot 0)
  else if kOf s.2 (rt s.1 slot) = 0 then (9, s)
  else if kOf s.2 (rt s.1 slot) = -1 then (0, s.1, s.2.set (rt s.1 slot) 1)
  else (0, s)
noncomputable def wantL (f : Ty → Nat → St → Option (Int × St)) : List (Ty × Nat) → St → Option (Int × St)
  | [], s => some (0, s)
  | x :: r, s => match f x.1 x.2 s with
    | none => none
    | some (e, s') => if e ≠ 0 then some (e, s') else wantL f r s'
/-- The shape that a type has once it has been checked. -/
def shape (t : Ty) : Prop := (t.kind = 0 → 0 ≤ t.var) ∧ (t.kind = 2 → t.args.length = 3) ∧ (t.kind = 3 → t.args.length = 1) ∧ (t.kind = 5 → t.args.length = 2)
open Classical in
noncomputable def wantP (datas : List DataSig) (first vars : List Nat) : Nat → Ty → Nat → St → Option (Int × St)
  | 0, _, _, _ => none
  | q + 1, t, slot, s =>
    if ¬ shape t then none
    else if t.kind = 0 then
      if (vars.length : Int) ≤ t.var then some (6, s)
      else some (joinE s.1 s.2 (vars.getD t.var.toNat 0) slot, joinU s.1 s.2 (vars.getD t.var.toNat 0) slot, joinK s.1 s.2 (vars.getD t.var.toNat 0) slot)
    else match partsP datas first t slot with
      | .error e => some (e, s)
      | .ok ps => if (headP t slot s).1 ≠ 0 then some (headP t slot s) else wantL (wantP datas first vars q) ps (headP t slot s).2

/-! ### What stays -/
structure Kinv (s : St) : Prop where
  uf : Uf s.1
  len : s.2.length = s.1.length
theorem joinU_len (up : List Nat) (kind : List Int) (i k : Nat) : (joinU up kind i k).length = up.length := by unfold joinU; split <;> simp
theorem joinK_len (up : List Nat) (kind : List Int) (i k : Nat) : (joinK up kind i k).length = kind.length := by unfold joinK; split <;> simp
theorem Kinv.join {s : St} (h : Kinv s) {i k : Nat} (hi : i < s.1.length) (hk : k < s.1.length) : Kinv (joinU s.1 s.2 i k, joinK s.1 s.2 i k) := by
  refine ⟨?_, by rw [joinU_len, joinK_len]; exact h.len⟩
  show Uf (joinU s.1 s.2 i k)
  unfold joinU
  split
  · exact h.uf
  · rename_i hn
    exact h.uf.join (h.uf.rt_root hi) (h.uf.rt_root hk) (fun e => hn (.inl e))
theorem headP_inv {t : Ty} {slot : Nat} {s : St} (h : Kinv s) (hs : slot < s.1.length) (h0 : 0 < s.1.length) : Kinv (headP t slot s).2 ∧ (headP t slot s).2.1.length = s.1.length := by
  unfold headP
  split
  · exact ⟨h.join hs h0, joinU_len _ _ _ _⟩
  · split
    · exact ⟨h, rfl⟩
    · split
      · exact ⟨⟨h.uf, by rw [List.length_set]; exact h.len⟩, rfl⟩
      · exact ⟨h, rfl⟩
theorem wantL_inv {f : Ty → Nat → St → Option (Int × St)} {n : Nat} (hf : ∀ t slot s r s', Kinv s → s.1.length = n → slot < n → f t slot s = some (r, s') → Kinv s' ∧ s'.1.length = n) : ∀ (ps : List (Ty × Nat)) (s : St) (r : Int) (s' : St), (∀ x ∈ ps, x.2 < n) → Kinv s → s.1.length = n → wantL f ps s = some (r, s') → Kinv s' ∧ s'.1.length = n
  | [], s, r, s', _, h, hl, e => by
    simp only [wantL, Option.some.injEq, Prod.mk.injEq] at e
    rw [← e.2]; exact ⟨h, hl⟩
  | x :: ps, s, r, s', hp, h, hl, e => by
    rw [wantL] at e
    split at e
    · cases e
    · rename_i r1 s1 h1
      have h2 := hf _ _ _ _ _ h hl (hp x (by simp)) h1
      split at e
      · simp only [Option.some.injEq, Prod.mk.injEq] at e
        rw [← e.2]; exact h2
      · exact wantL_inv hf ps s1 r s' (fun y hy => hp y (by simp [hy])) h2.1 h2.2 e
/-- The slots of the data types are there. -/
def Slots (datas : List DataSig) (first : List Nat) (n : Nat) : Prop := first.length = datas.length ∧ ∀ (i : Nat) (d : DataSig) (f : Nat), datas[i]? = some d → first[i]? = some f → 0 ≤ d.params ∧ d.params ≤ 16 ∧ f + d.params.toNat ≤ n
theorem Slots.par {datas : List DataSig} {first : List Nat} {n : Nat} (h : Slots datas first n) : ∀ d ∈ datas, 0 ≤ d.params ∧ d.params ≤ 16 := fun d hd => by
  obtain ⟨i, hi, rfl⟩ := List.getElem_of_mem hd
  have h1 : i < first.length := by rw [h.1]; exact hi
  have := h.2 i _ _ (List.getElem?_eq_getElem hi) (List.getElem?_eq_getElem h1)
  exact ⟨this.1, this.2.1⟩
theorem Slots.fst {datas : List DataSig} {first : List Nat} {n m : Nat} (h : Slots datas first n) (hn : n ≤ m) : ∀ i ∈ first, i ≤ m := fun d hd => by
  obtain ⟨i, hi, rfl⟩ := List.getElem_of_mem hd
  have h1 : i < datas.length := by rw [← h.1]; exact hi
  have := h.2 i _ _ (List.getElem?_eq_getElem h1) (List.getElem?_eq_getElem hi)
  omega
theorem findD_lt {n : Nat} : ∀ (datas : List DataSig) (first : List Nat), (∀ (i : Nat) (d : DataSig) (f : Nat), datas[i]? = some d → first[i]? = some f → 0 ≤ d.params ∧ d.params ≤ 16 ∧ f + d.params.toNat ≤ n) → ∀ (x : ByteArray) (l : List Nat), findD datas first x = some l → ∀ i ∈ l, i < n
  | d :: r, f :: fs, h, x, l, e => by
    rw [findD] at e
    split at e
    · have h0 := h 0 d f rfl rfl
      intro i hi
      rw [← Option.some.inj e] at hi
      unfold slotsOf at hi
      obtain ⟨k, hk, rfl⟩ := List.mem_map.1 hi
      have := List.mem_range.1 hk
      omega
    · exact findD_lt r fs (fun i d f h1 h2 => h (i + 1) d f (by simpa using h1) (by simpa using h2)) x l e
  | [], fs, _, _, _, e => by rw [findD_nil] at e; cases e
  | _ :: _, [], _, _, _, e => by cases e
theorem partsP_lt {datas : List DataSig} {first : List Nat} {n : Nat} (hs : Slots datas first n) (h3 : 3 ≤ n) {t : Ty} {slot : Nat} (hsl : slot < n) {ps : List (Ty × Nat)} (e : partsP datas first t slot = .ok ps) : ∀ x ∈ ps, x.2 < n := by
  unfold partsP at e
  split at e
  · split at e
    · cases e
    · rename_i l hl
      split at e
      · cases e
      · intro x hx
        rw [← Except.ok.inj e] at hx
        exact findD_lt datas first hs.2 _ l hl x.2 (List.of_mem_zip hx).2
  · split at e
    · split at e
      · intro x hx
        rw [← Except.ok.inj e] at hx
        simp at hx
        rcases hx with rfl | rfl | rfl <;> (dsimp; omega)
      · intro x hx; rw [← Except.ok.inj e] at hx; simp at hx
    · split at e
      · split at e
        · intro x hx
          rw [← Except.ok.inj e] at hx
          simp at hx
          subst hx; dsimp; omega
        · intro x hx; rw [← Except.ok.inj e] at hx; simp at hx
      · split at e
        · split at e
          · intro x hx
            rw [← Except.ok.inj e] at hx
            simp at hx
            rcases hx with rfl | rfl <;> (dsimp; omega)
          · intro x hx; rw [← Except.ok.inj e] at hx; simp at hx
        · intro x hx; rw [← Except.ok.inj e] at hx; simp at hx
theorem wantP_inv {datas : List DataSig} {first vars : List Nat} {n : Nat} (hs : Slots datas first n) (h3 : 3 ≤ n) (hv : ∀ v ∈ vars, v < n) : ∀ (q : Nat) (t : Ty) (slot : Nat) (s : St) (r : Int) (s' : St), Kinv s → s.1.length = n → slot < n → wantP datas first vars q t slot s = some (r, s') → Kinv s' ∧ s'.1.length = n
  | 0, _, _, _, _, _, _, _, _, e => by cases e
  | q + 1, t, slot, s, r, s', h, hl, hsl, e => by
    rw [wantP] at e
    split at e
    · cases e
    split at e
    · split at e
      · simp only [Option.some.injEq, Prod.mk.injEq] at e
        rw [← e.2]; exact ⟨h, hl⟩
      · simp only [Option.some.injEq, Prod.mk.injEq] at e
        have hvl : vars.getD t.var.toNat 0 < s.1.length := by
          rw [List.getD_eq_getElem?_getD]
          cases hq : vars[t.var.toNat]? with
          | none => simp; omega
          | some v => simp; have := hv v (List.mem_of_getElem? hq); omega
        rw [← e.2]
        exact ⟨h.join hvl (by omega), by show (joinU _ _ _ _).length = n; rw [joinU_len]; exact hl⟩
    · split at e
      · simp only [Option.some.injEq, Prod.mk.injEq] at e
        rw [← e.2]; exact ⟨h, hl⟩
      · rename_i ps hps
        have h1 := headP_inv (t := t) h (by omega : slot < s.1.length) (by omega)
        split at e
        · simp only [Option.some.injEq] at e
          have e2 : (headP t slot s).2 = s' := by rw [e]
          rw [← e2]; exact ⟨h1.1, h1.2.trans hl⟩
        · exact wantL_inv (fun t slot s r s' a b c d => wantP_inv hs h3 hv q t slot s r s' a b c d) ps _ r s' (partsP_lt hs h3 hsl hps) h1.1 (h1.2.trans hl) e
end Go.Proofs.YtjofndhbpglfgaaDoor
