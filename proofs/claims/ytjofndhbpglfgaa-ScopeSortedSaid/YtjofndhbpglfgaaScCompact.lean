/- slices.Compact at api.Diag. No conditions but bounds. -/
import Derived.Test.YtjofndhbpglfgaaScCmp
import Derived.Test.YtjofndhbpglfgaaCompact
namespace Go.Proofs.Ytjofndhbpglfgaa
open Go.RowKit Go.Shelf Go.Sort Cpt

/-! ### Located errors as four values -/
def Diag.v4 (x : Diag) : V4 := ⟨.int .i64 x.code, .int .i64 x.line, .int .i64 x.col, .string x.text⟩
theorem Diag.v4_form (x : Diag) : FmDg x.v4 := ⟨_, _, _, _, rfl⟩
theorem Diag.v4_inj {x y : Diag} (h : x.v4 = y.v4) : x = y := by
  obtain ⟨a, b, c, d⟩ := x
  obtain ⟨a', b', c', d'⟩ := y
  simp only [Diag.v4, V4.mk.injEq, Value.int.injEq, true_and, Value.string.injEq] at h
  obtain ⟨rfl, rfl, rfl, rfl⟩ := h
  rfl
/-- What is known of a located error that lies in memory. -/
structure Diag.Ok (x : Diag) : Prop where
  code : (Lit.int .i64 x.code).wf = true
  line : (Lit.int .i64 x.line).wf = true
  col : (Lit.int .i64 x.col).wf = true
  text : x.text.size ≤ maxLen
theorem Diag.rp4 {w : World} {F : Nat → Prop} {x : Diag} {cs : List Value} : Rp w F x.d cs ↔ cs = x.v4.cells ∧ x.Ok := by
  rw [Diag.rp]
  constructor
  · rintro ⟨rfl, h1, h2, h3, h4⟩
    exact ⟨rfl, h1, h2, h3, h4⟩
  · rintro ⟨rfl, h1, h2, h3, h4⟩
    exact ⟨rfl, h1, h2, h3, h4⟩
theorem diags_rp {w : World} {F : Nat → Prop} : ∀ {l : List Diag} {cs : List Value}, RpAll w F (l.map Diag.d) cs ↔ cs = (l.map Diag.v4).flatMap V4.cells ∧ ∀ x ∈ l, x.Ok
  | [], cs => by simp [RpAll]
  | x :: l, cs => by
    simp only [List.map_cons, rpAll_cons, diags_rp, Diag.rp4, List.flatMap_cons, List.mem_cons]
    constructor
    · rintro ⟨a, b, rfl, ⟨rfl, h1⟩, rfl, h2⟩
      exact ⟨rfl, fun y hy => hy.elim (fun e => e ▸ h1) (h2 y)⟩
    · rintro ⟨rfl, h⟩
      exact ⟨_, _, rfl, ⟨rfl, h x (.inl rfl)⟩, rfl, fun y hy => h y (.inr hy)⟩
abbrev cpl (l : List Diag) : List Diag := cs Diag.eqB none l
/-- Behind the first n elements: the first kk places hold what is kept of them, from n - 1 on the row is as it was. -/
structure CI (l : List Diag) (n kk : Nat) (dk : Array V4) : Prop where
  size : dk.size = l.length
  len : kk = (cpl (l.take n)).length
  lo : ∀ (i : Nat) (x : Diag), (cpl (l.take n))[i]? = some x → dk[i]! = x.v4
  hi : ∀ (j : Nat) (x : Diag), n ≤ j + 1 → l[j]? = some x → dk[j]! = x.v4
  lt : kk < n
theorem CI.start {l : List Diag} {k : Nat} {d : Array V4} (hd : d.toList = l.map Diag.v4) (hk : k + 1 < l.length) (hall : cpl (l.take (k + 1)) = l.take (k + 1)) (he : Diag.eqB l[k + 1] l[k] = true) : CI l (k + 1 + 1) (k + 1) d := by
  have hz : d.size = l.length := by have := congrArg List.length hd; simpa using this
  have hat : ∀ (i : Nat) (x : Diag), l[i]? = some x → d[i]! = x.v4 := fun i x h => by
    have hlt := (List.getElem?_eq_some_iff.1 h).1
    have h2 : d.toList[i]? = some x.v4 := by rw [hd, List.getElem?_map, h]; rfl
    rw [Stab.list_at (by omega)] at h2
    exact Option.some.inj h2
  have hs : cpl (l.take (k + 1 + 1)) = l.take (k + 1) := by
    show cs _ _ _ = _
    rw [cs_step hk, if_pos he]; exact hall
  refine ⟨hz, by rw [hs, List.length_take]; omega, fun i x h => ?_, fun j x _ h => hat j x h, by omega⟩
  rw [hs] at h
  refine hat i x ?_
  rw [List.getElem?_take] at h
  split at h
  · exact h
  · cases h
theorem CI.skip {l : List Diag} {n kk : Nat} {dk : Array V4} (h : CI l (n + 1) kk dk) (hn : n + 1 < l.length) (he : Diag.eqB l[n + 1] l[n] = true) : CI l (n + 1 + 1) kk dk := by
  have hs : cpl (l.take (n + 1 + 1)) = cpl (l.take (n + 1)) := by
    show cs _ _ _ = cs _ _ _
    rw [cs_step hn, if_pos he]
  exact ⟨h.size, by rw [hs]; exact h.len, by rw [hs]; exact h.lo, fun j x hj => h.hi j x (by omega), by have := h.lt; omega⟩
theorem CI.keep {l : List Diag} {n kk : Nat} {dk : Array V4} (h : CI l (n + 1) kk dk) (hn : n + 1 < l.length) (he : Diag.eqB l[n + 1] l[n] = false) : CI l (n + 1 + 1) (kk + 1) (dk.setIfInBounds kk l[n + 1].v4) := by
  have hs : cpl (l.take (n + 1 + 1)) = cpl (l.take (n + 1)) ++ [l[n + 1]] := by
    show cs _ _ _ = cs _ _ _ ++ _
    rw [cs_step hn, if_neg (by rw [he]; simp)]
  have hlt := h.lt
  have hat : ∀ i, i < dk.size → (dk.setIfInBounds kk l[n + 1].v4)[i]! = if kk = i then l[n + 1].v4 else dk[i]! := fun i hi => by
    rw [getElem!_pos _ i (by simpa using hi), Array.getElem_setIfInBounds hi, getElem!_pos _ i hi]
  refine ⟨by rw [Array.size_setIfInBounds]; exact h.size, by rw [hs, List.length_append, ← h.len]; rfl, fun i x hx => ?_, fun j x hj hx => ?_, by omega⟩
  · rw [hs] at hx
    have hil : i < kk + 1 := by have := (List.getElem?_eq_some_iff.1 hx).1; rw [List.length_append, ← h.len] at this; simpa using this
    rw [hat i (by rw [h.size]; omega)]
    by_cases e : kk = i
    · rw [if_pos e]
      subst e
      rw [List.getElem?_append_right (by rw [← h.len]; exact Nat.le_refl _), ← h.len, Nat.sub_self] at hx
      cases hx; rfl
    · rw [if_neg e]
      rw [List.getElem?_append_left (by rw [← h.len]; omega)] at hx
      exact h.lo i x hx
  · have hjl := (List.getElem?_eq_some_iff.1 hx).1
    rw [hat j (by rw [h.size]; omega), if_neg (by omega)]
    exact h.hi j x (by omega) hx

/-! ### clear at structs -/
theorem setCells_keeps (b : Nat) : ∀ (vs : List Value) (o : Nat) (W W' : World), Keeps (· = b) W W' → Keeps (· = b) W (W'.setCells b o vs)
  | [], _, _, _, h => h
  | _ :: vs, o, _, _, h => setCells_keeps b vs (o + 1) _ _ (h.setCell (p := ⟨b, o, none⟩) (fun _ => rfl) _)
theorem run_clear_many {P : Program} (w : World) (t e : TypeId) (z : Value) (k : Nat) (ht : P.underlying t = some (.slice e)) (hv : ∀ w, (zeroValue e).run P w = .ok z w) (hz : z.cells.size = k) (h1 : ∀ i, i < k → (z.cells[i]!).oneCell' = true) (hk : 0 < k) (b o n c : Nat) (hn : 0 < n)
    (hc : ∀ j, j < n * k → (w.cell? ⟨b, o + j, none⟩).isSome = true) (hf : ∀ j, j < n * k → w.frozen? ⟨b, o + j, none⟩ = false) :
    ∃ zs : List Value, zs.length = n * k ∧ ∀ ty, (Builtin.clear_ #[t] ty #[.slice (some ⟨b, o, none⟩) n c]).run P w = .ok (.tuple #[]) (w.setCells b o zs) := by
  refine ⟨(Builtin.zeroCells z.cells n).toList, by simp [Builtin.zeroCells, hz], ?_⟩
  have hst := run_storeCells_cells (P := P) b o (Builtin.zeroCells z.cells n).toList 0 w (by simpa [Builtin.zeroCells, hz] using hc) (by simpa [Builtin.zeroCells, hz] using hf) (by
    intro v hv'
    simp only [Builtin.zeroCells, Array.toList_map, List.mem_map] at hv'
    obtain ⟨i, _, rfl⟩ := hv'
    rw [hz]
    exact h1 _ (Nat.mod_lt _ hk))
  simp only [Nat.add_zero] at hst
  obtain ⟨m, rfl⟩ : ∃ m, n = m + 1 := ⟨n - 1, by omega⟩
  intro ty
  simp [Builtin.clear_, run_underlying ht, hv, hst]
end Go.Proofs.Ytjofndhbpglfgaa
