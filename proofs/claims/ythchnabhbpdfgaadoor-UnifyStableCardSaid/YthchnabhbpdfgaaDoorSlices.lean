/- Appending a slice to a row of the call's own; arguments with the form's own reach. No conditions. -/
import Derived.Test.YthchnabhbpdfgaaDoorBase
import Derived.Maps.AppendAt
import Derived.RegionTactic
import Derived.OwnWalk
import Derived.SizedLaws
import Derived.Laws.StructEq
namespace Go.Proofs.YthchnabhbpdfgaaDoor
open Go.RowKit Go.ChangeShapes Go.WideShapes

mutual
theorem Rp.one {w : World} {F : Nat → Prop} : ∀ (d : D) (cs : List Value), Rp w F d cs → ∀ u ∈ cs, u.oneCell' = true
  | .int _ _, _, h, u, hu => by simp only [Rp] at h; rw [h.1] at hu; simp at hu; subst hu; rfl
  | .bool _, _, h, u, hu => by simp only [Rp] at h; rw [h] at hu; simp at hu; subst hu; rfl
  | .str _, _, h, u, hu => by simp only [Rp] at h; rw [h.1] at hu; simp at hu; subst hu; rfl
  | .agg l, cs, h, u, hu => by simp only [Rp] at h; exact RpAll.one' l cs h u hu
  | .sl _, _, h, u, hu => by
    simp only [Rp] at h
    obtain ⟨A, c, e, _⟩ := h
    rw [e] at hu; simp at hu; subst hu; rfl
theorem RpAll.one' {w : World} {F : Nat → Prop} : ∀ (l : List D) (cs : List Value), RpAll w F l cs → ∀ u ∈ cs, u.oneCell' = true
  | [], _, h, u, hu => by simp only [RpAll] at h; rw [h] at hu; cases hu
  | d :: l, _, h, u, hu => by
    simp only [RpAll] at h
    obtain ⟨a, b, e, h1, h2⟩ := h
    rw [e, List.mem_append] at hu
    rcases hu with hu | hu
    · exact Rp.one d a h1 u hu
    · exact RpAll.one' l b h2 u hu
end

section
variable {P : Program} (w : World)
/-- append onto a row of the call's own from whatever slice. -/
theorem run_append_sl (base : Nat) (t ty e : TypeId) (i : TypeInfo) (z : Value) (size bytes : Nat) (ht : P.underlying t = some (.slice e)) (hi : P.info? e = some i) (hz : i.zero = some z)
    (hsize : i.size = size) (hby : i.bytes = bytes) (hzs : z.cells.size = size) (hsz : 0 < size)
    (v : Value) (n : Nat) (xs : List Value) (hown : w.ownsRow base e size v n xs)
    {α : Type} (f : α → D) (hk : Wide f size) (F : Nat → Prop) (l : List α) (A : Option Addr) (m c : Nat) (hs : Sl w F f l (.slice A m c))
    (h63 : n + m ≤ maxLen) (hbytes : (n + m) * bytes ≤ 140737488355328) (hbase : base ≤ w.heap.size) :
    ∃ v' w' news, (Builtin.append_ #[t, t] ty #[v, .slice A m c]).run P w = .ok v' w' ∧ RpAll w F (l.map f) news ∧ w'.ownsRow base e size v' (n + m) (xs ++ news) ∧ w.grownBy w' v.ownBlock ∧
      (v'.ownBlock = v.ownBlock ∨ v'.ownBlock = some w.heap.size) := by
  have hs' := hs
  unfold Sl at hs'
  simp only [Rp, List.length_map] at hs'
  obtain ⟨A', c', e1, _, _, h3, h4⟩ := hs'
  simp only [List.cons.injEq, Value.slice.injEq, and_true] at e1
  obtain ⟨rfl, rfl, rfl⟩ := e1
  rcases A with _ | ad
  · have hl : l = [] := by
      cases l with
      | nil => rfl
      | cons x r =>
        obtain ⟨g, off, xs, h, _⟩ := h4 (by simp)
        cases h
    subst hl
    refine ⟨v, w, [], ?_, by simp [RpAll], by simpa using hown, World.grownBy.refl w _, .inl rfl⟩
    rcases hown.2 with ⟨rfl, rfl⟩ | ⟨g, cap, cur, rfl, _, _, hnc, _⟩
    · simp [Builtin.append_, run_underlying ht, sizeOf, typeInfo, hi, Builtin.lenOf, Builtin.firstCells]
    · simp [Builtin.append_, run_underlying ht, sizeOf, typeInfo, hi, Builtin.lenOf, Builtin.firstCells, hnc, storeCells]
  · obtain ⟨news, hn, hcells⟩ : ∃ news, RpAll w F (l.map f) news ∧ ∀ j u, news[j]? = some u → w.cell? (ad.add j) = some u := by
      cases l with
      | nil => exact ⟨[], by simp [RpAll], fun j u h => by simp at h⟩
      | cons x r =>
        obtain ⟨g, off, xs, h, _, hx, hc⟩ := h4 (by simp)
        simp only [Option.some.injEq] at h
        subst h
        exact ⟨xs, hx, fun j u hj => by rw [Go.WideShapes.add_plain]; exact hc j u hj⟩
    obtain ⟨v', w', hrun, h2, h3', _, h5⟩ := run_append_own_at (P := P) w base t ty e i z size bytes ht hi hz hsize hby hzs hsz v n xs hown ad l.length c news (RpAll.length hk _ _ hn) hcells (RpAll.one' _ _ hn) h63 hbytes hbase
    exact ⟨v', w', news, hrun, hn, h2, h3', h5⟩

theorem wp_append_sl {o : Oper} {a : Act} {K : Act → World → Prop} {Q : Exit → Act → World → Prop} (s x : Operand) (t : TypeId)
    (ho : o.op = .call { callee := .builtin .append, args := #[s, x], argTypes := #[t, t] })
    (base : Nat) (e : TypeId) (i : TypeInfo) (z : Value) (size bytes : Nat) (ht : P.underlying t = some (.slice e)) (hi : P.info? e = some i) (hz : i.zero = some z)
    (hsize : i.size = size) (hby : i.bytes = bytes) (hzs : z.cells.size = size) (hsz : 0 < size)
    (v : Value) (n : Nat) (xs : List Value) (hv : a.eval s = v) (hown : w.ownsRow base e size v n xs)
    {α : Type} (f : α → D) (hk : Wide f size) (F : Nat → Prop) (l : List α) (A : Option Addr) (m c : Nat) (hx : a.eval x = .slice A m c) (hs : Sl w F f l (.slice A m c))
    (h63 : n + m ≤ maxLen) (hbytes : (n + m) * bytes ≤ 140737488355328) (hbase : base ≤ w.heap.size)
    (h : ∀ v' w' news, RpAll w F (l.map f) news → w'.ownsRow base e size v' (n + m) (xs ++ news) → w.grownBy w' v.ownBlock → (v'.ownBlock = v.ownBlock ∨ v'.ownBlock = some w.heap.size) → K (a.put o.dst v') w') : o.wp P a w K Q := by
  obtain ⟨v', w', news, hr, h1, h2, h3, h4⟩ := run_append_sl (P := P) w base t o.type e i z size bytes ht hi hz hsize hby hzs hsz v n xs hown f hk F l A m c hs h63 hbytes hbase
  unfold Oper.wp execOp
  simp only [ho, resolve, invoke, builtin, Sem.run_bind, Sem.run_pure, Result.andThen_ok, List.map_toArray, List.map_cons, List.map_nil, hv, hx, hr]
  exact h v' w' news h1 h2 h3 h4

theorem wpList_append_sl {ops : Array Oper} {rest : List Oper} {o : Oper} {a : Act} {Q : Exit → Act → World → Prop} (hgd : o.guard = none) (s x : Operand) (t : TypeId)
    (ho : o.op = .call { callee := .builtin .append, args := #[s, x], argTypes := #[t, t] })
    (base : Nat) (e : TypeId) (i : TypeInfo) (z : Value) (size bytes : Nat) (ht : P.underlying t = some (.slice e)) (hi : P.info? e = some i) (hz : i.zero = some z)
    (hsize : i.size = size) (hby : i.bytes = bytes) (hzs : z.cells.size = size) (hsz : 0 < size)
    (v : Value) (n : Nat) (xs : List Value) (hv : a.eval s = v) (hown : w.ownsRow base e size v n xs)
    {α : Type} (f : α → D) (hk : Wide f size) (F : Nat → Prop) (l : List α) (A : Option Addr) (m c : Nat) (hx : a.eval x = .slice A m c) (hs : Sl w F f l (.slice A m c))
    (h63 : n + m ≤ maxLen) (hbytes : (n + m) * bytes ≤ 140737488355328) (hbase : base ≤ w.heap.size)
    (h : ∀ v' w' news, RpAll w F (l.map f) news → w'.ownsRow base e size v' (n + m) (xs ++ news) → w.grownBy w' v.ownBlock → (v'.ownBlock = v.ownBlock ∨ v'.ownBlock = some w.heap.size) → wpList P ops Q rest (a.put o.dst v') w') : wpList P ops Q (o :: rest) a w :=
  wpList_plain hgd fun _ hK => wp_append_sl w s x t ho base e i z size bytes ht hi hz hsize hby hzs hsz v n xs hv hown f hk F l A m c hx hs h63 hbytes hbase fun v' w' news h1 h2 h3 h4 => hK _ _ (h v' w' news h1 h2 h3 h4)

theorem step_append_sl {ops : Array Oper} {o : Oper} {a : Act} {K : Act → World → Prop} {Q : Exit → Act → World → Prop} {E : Prop} (hgd : o.guard = none) (s x : Operand) (t : TypeId)
    (ho : o.op = .call { callee := .builtin .append, args := #[s, x], argTypes := #[t, t] })
    (base : Nat) (e : TypeId) (i : TypeInfo) (z : Value) (size bytes : Nat) (ht : P.underlying t = some (.slice e)) (hi : P.info? e = some i) (hz : i.zero = some z)
    (hsize : i.size = size) (hby : i.bytes = bytes) (hzs : z.cells.size = size) (hsz : 0 < size)
    (v : Value) (n : Nat) (xs : List Value) (hv : a.eval s = v) (hown : w.ownsRow base e size v n xs)
    {α : Type} (f : α → D) (hk : Wide f size) (F : Nat → Prop) (l : List α) (A : Option Addr) (m c : Nat) (hx : a.eval x = .slice A m c) (hs : Sl w F f l (.slice A m c))
    (h63 : n + m ≤ maxLen) (hbytes : (n + m) * bytes ≤ 140737488355328) (hbase : base ≤ w.heap.size)
    (h : ∀ v' w' news, RpAll w F (l.map f) news → w'.ownsRow base e size v' (n + m) (xs ++ news) → w.grownBy w' v.ownBlock → (v'.ownBlock = v.ownBlock ∨ v'.ownBlock = some w.heap.size) → K (a.put o.dst v') w') :
    if Region.wanted o (yielded ops a.tmps) = true then Oper.wp P o a w K Q else E := by
  have hw : Region.wanted o (yielded ops a.tmps) = true := by simp [Region.wanted, hgd]
  rw [if_pos hw]
  exact wp_append_sl w s x t ho base e i z size bytes ht hi hz hsize hby hzs hsz v n xs hv hown f hk F l A m c hx hs h63 hbytes hbase h
end

/-! ### Two lists of data, held against each other -/
def eqBy {α : Type} (q : α → α → Bool) : List α → List α → Bool
  | [], [] => true
  | x :: r, y :: s => q x y && eqBy q r s
  | [], _ :: _ => false
  | _ :: _, [] => false
theorem eqBy_step {α : Type} (q : α → α → Bool) (l m : List α) (k : Nat) (h1 : k < l.length) (h2 : k < m.length) :
    (q l[k] m[k] = true → eqBy q (l.drop k) (m.drop k) = eqBy q (l.drop (k + 1)) (m.drop (k + 1))) ∧ (q l[k] m[k] = false → eqBy q (l.drop k) (m.drop k) = false) := by
  rw [List.drop_eq_getElem_cons h1, List.drop_eq_getElem_cons h2, eqBy]
  exact ⟨fun h => by simp [h], fun h => by simp [h]⟩
theorem eqBy_end {α : Type} (q : α → α → Bool) (l m : List α) (k : Nat) (h1 : l.length ≤ k) (h2 : l.length = m.length) : eqBy q (l.drop k) (m.drop k) = true := by
  rw [List.drop_eq_nil_of_le h1, List.drop_eq_nil_of_le (by omega)]; rfl
theorem eqBy_len {α : Type} (q : α → α → Bool) : ∀ (l m : List α), l.length ≠ m.length → eqBy q l m = false
  | [], [], h => absurd rfl h
  | [], _ :: _, _ => rfl
  | _ :: _, [], _ => rfl
  | x :: r, y :: s, h => by
    rw [eqBy, eqBy_len q r s (by simpa using h), Bool.and_false]
theorem eqBy_refl {α : Type} (q : α → α → Bool) (hq : ∀ x, q x x = true) : ∀ l : List α, eqBy q l l = true
  | [] => rfl
  | x :: r => by rw [eqBy, hq, eqBy_refl q hq r]; rfl
theorem eqBy_eq {α : Type} (q : α → α → Bool) (hq : ∀ x y, q x y = true → x = y) : ∀ l m : List α, eqBy q l m = true → l = m
  | [], [], _ => rfl
  | [], _ :: _, h => by cases h
  | _ :: _, [], h => by cases h
  | x :: r, y :: s, h => by
    rw [eqBy, Bool.and_eq_true] at h
    rw [hq x y h.1, eqBy_eq q hq r s h.2]

/-! ### An argument that is a slice, with the form's reach -/
section
variable {H : Type} {enc : TypeId × Value → H} {P : Program} {w : World} {base : Nat} {sp : Nat → Bool} {held : Bool}
theorem sl_len_of_trod {α : Type} {f : α → D} {t e : TypeId} (ht : P.underlying t = some (.slice e)) {n len cap : Nat} {A : Option Addr} {y : DataW H × List MemPlace} (h : DataW.trod enc P w base sp held n t [.slice A len cap] = some y)
    {l : List α} (_ : Sl w (· < w.heap.size) f l (.slice A len cap)) (hr : (y.1.weights P t).all (· ≤ reachBytes) = true) : len * P.bytesOf e ≤ 140737488351232 := by
  rcases Go.Deep.open_slice ht h with ⟨h0, _⟩ | ⟨a, len', cap', m, n', Dd, Pl, h0, _, hlen, hcap, hm, hy, _⟩
  · simp at h0
    obtain ⟨_, rfl, _⟩ := h0
    simp
  · simp at h0
    obtain ⟨_, rfl, _⟩ := h0
    rw [hy] at hr
    simp only [DataW.weights, ht, List.length_map, List.length_range, List.all_cons, Bool.and_eq_true, decide_eq_true_eq] at hr
    have h1 := hr.1
    unfold reachBytes at h1
    have : len * P.bytesOf e ≤ (len + (m - len)) * P.bytesOf e := Nat.mul_le_mul_right _ (by omega)
    omega
theorem sl_of_arg_sized {α : Type} {f : α → D} {k : Nat} {t e : TypeId} {b0 : Nat} {r : Reach} {v : Value} {dd : DataW H} {ps : List MemPlace} (ht : P.underlying t = some (.slice e)) (hk : P.cellsOf e = k) (h0 : 0 < k)
    (he : ∀ n cs y, DataW.trod enc P w base sp held n e cs = some y → ∃ x : α, Rp w (· < w.heap.size) (f x) cs)
    (hval : Value.okWide P w r b0 t v) (h : DataW.Trod enc P w base sp held t v dd ps) (hr : (dd.weights P t).all (· ≤ reachBytes) = true) : ∃ l : List α, Sl w (· < w.heap.size) f l v ∧ l.length * P.bytesOf e ≤ 140737488351232 := by
  obtain ⟨A, n, c, rfl⟩ := okWide_slice ht hval
  obtain ⟨fuel, hf⟩ := h
  obtain ⟨l, hl⟩ := sl_of_trod (f := f) ht hk h0 he hf
  have hs : Sl w (· < w.heap.size) f l (.slice A n c) := by simpa [Sl, Value.cells] using hl
  have hb := sl_len_of_trod (f := f) ht (by simpa [Value.cells] using hf) hs hr
  refine ⟨l, hs, ?_⟩
  obtain ⟨A', c', e1, _⟩ := hs.form
  simp only [Value.slice.injEq] at e1
  rw [← e1.2.1]; exact hb
theorem weight_at {ts : List TypeId} {ds : List (DataW H)} (h : (DataW.weightsEach P ts ds).all (· ≤ reachBytes) = true) {j : Nat} {t : TypeId} {d : DataW H} (ht : ts[j]? = some t) (hd : ds[j]? = some d) : (d.weights P t).all (· ≤ reachBytes) = true :=
  List.all_eq_true.2 fun n hn => List.all_eq_true.1 h n (DataW.weights_mem_each ht hd n hn)
end
end Go.Proofs.YthchnabhbpdfgaaDoor
