/- Appending a slice to a row of the call's own; arguments with the form's own reach. No conditions. -/
import Derived.Test.YtcjoapmodaioiaaGreatDoorBase
import Derived.Maps.AppendAt
import Derived.RegionTactic
import Derived.OwnWalk
import Derived.SizedLaws
import Derived.Laws.StructEq
namespace Go.Proofs.YtcjoapmodaioiaaGreatDoor
open Go.RowKit Go.ChangeShapes Go.WideShapes

mutual
theorem Rp.one {w : World} {F : Nat → Prop} : ∀ (d : D) (cs : List Value), Rp w F d cs → ∀ u ∈ cs, u.oneCell' = true
  | .int _ _, _, h, u, hu => by simp only [Rp] at h; rw [h.1] at hu; simp at hu; subst hu; rfl
  | .bool _, _, h, u, hu => by simp only [Rp] at h; rw [h] at hu; simp at hu; subst hu; rfl
  | .str _, _, h, u, hu => by simp only [Rp] at h; rw [h.1] at hu; simp at hu; subst hu; rfl
  | .agg l, cs, h, u, hu => by simp only [Rp] at h; exact RpAll.one' l cs h u hu
  | .sl _, _, h, u, hu => by
    simp only [Rp] at h
    obtain ⟨A, c, e, _⟩ := h
    rw [e] at hu; simp at hu; subst hu; rfl
theorem RpAll.one' {w : World} {F : Nat → Prop} : ∀ (l : List D) (cs : List Value), RpAll w F l cs → ∀ u ∈ cs, u.oneCell' = true
  | [], _, h, u, hu => by simp only [RpAll] at h; rw [h] at hu; cases hu
  | d :: l, _, h, u, hu => by
    simp only [RpAll] at h
    obtain ⟨a, b, e, h1, h2⟩ := h
    rw [e, List.mem_append] at hu
    rcases hu with hu | hu
    · exact Rp.one d a h1 u hu
    · exact RpAll.one' l b h2 u hu
end

section
variable {P : Program} (w : World)
theorem run_append_sl (base : Nat) (t ty e : TypeId) (i : TypeInfo) (z : Value) (size bytes : Nat) (ht : P.underlying t = some (.slice e)) (hi : P.info? e = some i) (hz : i.zero = some z)
    (hsize : i.size = size) (hby : i.bytes = bytes) (hzs : z.cells.size = size) (hsz : 0 < size)
    (v : Value) (n : Nat) (xs : List Value) (hown : w.ownsRow base e size v n xs)
    {α : Type} (f : α → D) (hk : Wide f size) (F : Nat → Prop) (l : List α) (A : Option Addr) (m c : Nat) (hs : Sl w F f l (.slice A m c))
    (h63 : n + m ≤ maxLen) (hbytes : (n + m) * bytes ≤ 140737488355328) (hbase : base ≤ w.heap.size) :
    ∃ v' w' news, (Builtin.append_ #[t, t] ty #[v, .slice A m c]).run P w = .ok v' w' ∧ RpAll w F (l.map f) news ∧ w'.ownsRow base e size v' (n + m) (xs ++ news) ∧ w.grownBy w' v.ownBlock ∧
      (v'.ownBlock = v.ownBlock ∨ v'.ownBlock = some w.heap.size) := by
  have hs' := hs
  unfold Sl at hs'
  simp only [Rp, List.length_map] at hs'
  obtain ⟨A', c', e1, _, _, h3, h4⟩ := hs'
  simp only [List.cons.injEq, Value.slice.injEq, and_true] at e1
  obtain ⟨rfl, rfl, rfl⟩ := e1
  rcases A with _ | ad
  · have hl : l = [] := by
      cases l with
      | nil => rfl
      | cons x r =>
        obtain ⟨g, off, xs, h, _⟩ := h4 (by simp)
        cases h
    subst hl
    refine ⟨v, w, [], ?_, by simp [RpAll], by simpa using hown, World.grownBy.refl w _, .inl rfl⟩
    rcases hown.2 with ⟨rfl, rfl⟩ | ⟨g, cap, cur, rfl, _, _, hnc, _⟩
    · simp [Builtin.append_, run_underlying ht, sizeOf, typeInfo, hi, Builtin.lenOf, Builtin.firstCells]
    · simp [Builtin.append_, run_underlying ht, sizeOf, typeInfo, hi, Builtin.lenOf, Builtin.firstCells, hnc, storeCells]
  · obtain ⟨news, hn, hcells⟩ : ∃ news, RpAll w F (l.map f) news ∧ ∀ j u, news[j]? = some u → w.cell? (ad.add j) = some u := by
      cases l with
      | nil => exact ⟨[], by simp [RpAll], fun j u h => by simp at h⟩
      | cons x r =>
        obtain ⟨g, off, xs, h, _, hx, hc⟩ := h4 (by simp)
        simp only [Option.some.injEq] at h
        subst h
        exact ⟨xs, hx, fun j u hj => by rw [Go.WideShapes.add_plain]; exact hc j u hj⟩
    obtain ⟨v', w', hrun, h2, h3', _, h5⟩ := run_append_own_at (P := P) w base t ty e i z size bytes ht hi hz hsize hby hzs hsz v n xs hown ad l.length c news (RpAll.length hk _ _ hn) hcells (RpAll.one' _ _ hn) h63 hbytes hbase
    exact ⟨v', w', news, hrun, hn, h2, h3', h5⟩

theorem wp_append_sl {o : Oper} {a : Act} {K : Act → World → Prop} {Q : Exit → Act → World → Prop} (s x : Operand) (t : TypeId)
    (ho : o.op = .call { callee := .builtin .append, args := #[s, x], argTypes := #[t, t] })
    (base : Nat) (e : TypeId) (i : TypeInfo) (z : Value) (size bytes : Nat) (ht : P.underlying t = some (.slice e)) (hi : P.info? e = some i) (hz : i.zero = some z)
    (hsize : i.size = size) (hby : i.bytes = bytes) (hzs : z.cells.size = size) (hsz : 0 < size)
    (v : Value) (n : Nat) (xs : List Value) (hv : a.eval s = v) (hown : w.ownsRow base e size v n xs)
    {α : Type} (f : α → D) (hk : Wide f size) (F : Nat → Prop) (l : List α) (A : Option Addr) (m c : Nat) (hx : a.eval x = .slice A m c) (hs : Sl w F f l (.slice A m c))
    (h63 : n + m ≤ maxLen) (hbytes : (n + m) * bytes ≤ 140737488355328) (hbase : base ≤ w.heap.size)
    (h : ∀ v' w' news, RpAll w F (l.map f) news → w'.ownsRow base e size v' (n + m) (xs ++ news) → w.grownBy w' v.ownBlock → (v'.ownBlock = v.ownBlock ∨ v'.ownBlock = some w.heap.size) → K (a.put o.dst v') w') : o.wp P a w K Q := by
  obtain ⟨v', w', news, hr, h1, h2, h3, h4⟩ := run_append_sl (P := P) w base t o.type e i z size bytes ht hi hz hsize hby hzs hsz v n xs hown f hk F l A m c hs h63 hbytes hbase
  unfold Oper.wp execOp
  simp only [ho, resolve, invoke, builtin, Sem.run_bind, Sem.run_pure, Result.andThen_ok, List.map_toArray, List.map_cons, List.map_nil, hv, hx, hr]
  exact h v' w' news h1 h2 h3 h4


end

/-! ### Two lists of data, held against each other -/

/-! ### An argument that is a slice, with the form's reach -/
section
variable {H : Type} {enc : TypeId × Value → H} {P : Program} {w : World} {base : Nat} {sp : Nat → Bool} {held : Bool}
end
end Go.Proofs.YtcjoapmodaioiaaGreatDoor
