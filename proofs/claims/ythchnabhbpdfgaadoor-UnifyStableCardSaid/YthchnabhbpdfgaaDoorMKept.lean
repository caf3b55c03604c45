/- append to a row of the call's own, as a step of a region that draws its order: all facts are said of one world W0 from which the present one differs by new blocks and draws alone. No conditions. append as a step of a region that draws its order: the new block is told by the world at hand (of XNorm). No conditions. append of elements of four cells as a step of a region that draws its order. No conditions. -/
import Derived.Test.YthchnabhbpdfgaaDoorBase
import Derived.Deep.RegionLaw
section
namespace Go.Proofs.YthchnabhbpdfgaaDoor
open Go.RowKit

section
variable {w w' W0 : World} {X : Nat → Prop}
theorem heap_lt {g : Nat} {x : Obj} (h : w.heap[g]? = some x) : g < w.heap.size := (Array.getElem?_eq_some_iff.1 h).1
theorem heap_up {g : Nat} {x : Obj} (h : w.heap[g]? = some x) (o : Obj) : (w.alloc o).heap[g]? = some x := (Below.heap_alloc w o g (heap_lt h)).trans h
theorem heap_new_at {o : Obj} {n : Nat} (h : n = w.heap.size) : (w.alloc o).heap[n]? = some o := by subst h; exact heap_alloc_new w o
theorem Keeps.heap {g : Nat} {x : Obj} (hk : Keeps X w w') (h : w.heap[g]? = some x) (hg : ¬ X g) : w'.heap[g]? = some x := (hk.block g (heap_lt h) hg).trans h
theorem Keeps.frozen {a : Addr} {b : Bool} (hk : Keeps X w w') (h : w.frozen? a = b) (hl : a.block < w.heap.size) (hg : ¬ X a.block) : w'.frozen? a = b := by
  rw [← h]; unfold World.frozen?; rw [hk.block a.block hl hg]
/-- Nothing that was there has changed. -/
abbrev Same (w w' : World) : Prop := Keeps (fun _ => False) w w'
end
theorem own_ne {v v' : Value} (h : ∀ i, v.ownBlock = some i → ¬ v'.ownBlock = some i) : v.ownBlock = none ∨ v.ownBlock ≠ v'.ownBlock := by
  cases hv : v.ownBlock with
  | none => exact .inl rfl
  | some i => exact .inr fun e => h i hv e.symm

section
variable {P : Program} {W0 w : World}
theorem step_append_kept {ops : Array Oper} {o : Oper} {a : Act} {K : Act → World → Prop} {Q : Exit → Act → World → Prop} {E : Prop} (hgd : o.guard = none) (s x : Operand) (t : TypeId)
    (ho : o.op = .call { callee := .builtin .append, args := #[s, x], argTypes := #[t, t] })
    (base : Nat) (e : TypeId) (i : TypeInfo) (z : Value) (size bytes : Nat) (ht : P.underlying t = some (.slice e)) (hi : P.info? e = some i) (hz : i.zero = some z)
    (hsize : i.size = size) (hby : i.bytes = bytes) (hzs : z.cells.size = size) (hsz : 0 < size)
    (v : Value) (n : Nat) (xs : List Value) (hs : a.eval s = v) (hown : W0.ownsRow base e size v n xs) (hk : Keeps (fun _ => False) W0 w)
    (g0 : Nat) (c : Nat) (news : Array Value) (hx : a.eval x = .slice (some ⟨g0, 0, none⟩) 1 c) (hl : news.size = size) (hnews : w.heap[g0]? = some (.cells news e (0, 0))) (h1 : ∀ u ∈ news.toList, u.oneCell' = true)
    (h63 : n + 1 ≤ maxLen) (hbytes : (n + 1) * bytes ≤ 140737488355328) (hbase : base ≤ W0.heap.size)
    (h : ∀ g cap w', w'.ownsRow base e size (.slice (some ⟨g, 0, none⟩) (n + 1) cap) (n + 1) (xs ++ news.toList) → Keeps (fun k => v.ownBlock = some k) W0 w' → (∀ k o, w.heap[k]? = some o → ¬ v.ownBlock = some k → w'.heap[k]? = some o) → (v.ownBlock = some g ∨ W0.heap.size ≤ g) →
      K (a.put o.dst (.slice (some ⟨g, 0, none⟩) (n + 1) cap)) w') :
    if Region.wanted o (yielded ops a.tmps) = true then Oper.wp P o a w K Q else E := by
  have hw := own_keeps hown hk (fun _ _ h => h)
  refine step_append_lies _ hgd s x t ho base e i z size bytes ht hi hz hsize hby hzs hsz v n xs hs hw ⟨g0, 0, none⟩ 1 c news.toList hx (by rw [Array.length_toList, hl, Nat.one_mul]) (World.news_of_block (cs := news) (t := e) (fr := (0, 0)) hnews) h1 (by omega) h63 hbytes (Nat.le_trans hbase hk.size) _ rfl ?_
  intro g cap w' hown1 hgrow hat _
  exact h g cap w' hown1 ((hk.mono (fun _ _ h => h.elim)).grown hgrow (fun j hj _ => hj)) (fun k ob hko hne => (hgrow.block k (heap_lt hko) (fun e => hne e.symm)).trans hko) (hat.imp id fun e => by rw [e]; exact hk.size)
end
end Go.Proofs.YthchnabhbpdfgaaDoor
end

section
namespace Go.Proofs.YthchnabhbpdfgaaDoor
open Go.RowKit
section
variable {P : Program} {W0 w : World}
theorem step_append_kept2 {ops : Array Oper} {o : Oper} {a : Act} {K : Act → World → Prop} {Q : Exit → Act → World → Prop} {E : Prop} (hgd : o.guard = none) (s x : Operand) (t : TypeId)
    (ho : o.op = .call { callee := .builtin .append, args := #[s, x], argTypes := #[t, t] })
    (base : Nat) (e : TypeId) (i : TypeInfo) (z : Value) (size bytes : Nat) (ht : P.underlying t = some (.slice e)) (hi : P.info? e = some i) (hz : i.zero = some z)
    (hsize : i.size = size) (hby : i.bytes = bytes) (hzs : z.cells.size = size) (hsz : 0 < size)
    (v : Value) (n : Nat) (xs : List Value) (hs : a.eval s = v) (hown : W0.ownsRow base e size v n xs) (hk : Keeps (fun _ => False) W0 w)
    (g0 : Nat) (c : Nat) (news : Array Value) (hx : a.eval x = .slice (some ⟨g0, 0, none⟩) 1 c) (hl : news.size = size) (hnews : w.heap[g0]? = some (.cells news e (0, 0))) (h1 : ∀ u ∈ news.toList, u.oneCell' = true)
    (h63 : n + 1 ≤ maxLen) (hbytes : (n + 1) * bytes ≤ 140737488355328) (hbase : base ≤ W0.heap.size)
    (h : ∀ g cap w', w'.ownsRow base e size (.slice (some ⟨g, 0, none⟩) (n + 1) cap) (n + 1) (xs ++ news.toList) → Keeps (fun k => v.ownBlock = some k) W0 w' → (∀ k o, w.heap[k]? = some o → ¬ v.ownBlock = some k → w'.heap[k]? = some o) → (v.ownBlock = some g ∨ w.heap.size ≤ g) →
      K (a.put o.dst (.slice (some ⟨g, 0, none⟩) (n + 1) cap)) w') :
    if Region.wanted o (yielded ops a.tmps) = true then Oper.wp P o a w K Q else E := by
  have hw := own_keeps hown hk (fun _ _ h => h)
  refine step_append_lies _ hgd s x t ho base e i z size bytes ht hi hz hsize hby hzs hsz v n xs hs hw ⟨g0, 0, none⟩ 1 c news.toList hx (by rw [Array.length_toList, hl, Nat.one_mul]) (World.news_of_block (cs := news) (t := e) (fr := (0, 0)) hnews) h1 (by omega) h63 hbytes (Nat.le_trans hbase hk.size) _ rfl ?_
  intro g cap w' hown1 hgrow hat _
  exact h g cap w' hown1 ((hk.mono (fun _ _ h => h.elim)).grown hgrow (fun j hj _ => hj)) (fun k ob hko hne => (hgrow.block k (heap_lt hko) (fun e => hne e.symm)).trans hko) (hat.imp id fun e => by rw [e]; exact Nat.le_refl _)
end
end Go.Proofs.YthchnabhbpdfgaaDoor
end

section
namespace Go.Proofs.YthchnabhbpdfgaaDoor
open Go.RowKit Go.Shelf

section
variable {P : Program} {W0 w : World}
/-- As step_append_kept2, of m elements. -/
theorem step_append_kept_m {ops : Array Oper} {o : Oper} {a : Act} {K : Act → World → Prop} {Q : Exit → Act → World → Prop} {E : Prop} (hgd : o.guard = none) (s x : Operand) (t : TypeId)
    (ho : o.op = .call { callee := .builtin .append, args := #[s, x], argTypes := #[t, t] })
    (base : Nat) (e : TypeId) (i : TypeInfo) (z : Value) (size bytes : Nat) (ht : P.underlying t = some (.slice e)) (hi : P.info? e = some i) (hz : i.zero = some z)
    (hsize : i.size = size) (hby : i.bytes = bytes) (hzs : z.cells.size = size) (hsz : 0 < size)
    (v : Value) (n : Nat) (xs : List Value) (hs : a.eval s = v) (hown : W0.ownsRow base e size v n xs) (hk : Keeps (fun _ => False) W0 w)
    (g0 m c : Nat) (news : Array Value) (hx : a.eval x = .slice (some ⟨g0, 0, none⟩) m c) (hm : 0 < m) (hl : news.size = m * size) (hnews : w.heap[g0]? = some (.cells news e (0, 0))) (h1 : ∀ u ∈ news.toList, u.oneCell' = true)
    (h63 : n + m ≤ maxLen) (hbytes : (n + m) * bytes ≤ 140737488355328) (hbase : base ≤ W0.heap.size)
    (h : ∀ g cap w', w'.ownsRow base e size (.slice (some ⟨g, 0, none⟩) (n + m) cap) (n + m) (xs ++ news.toList) → Keeps (fun k => v.ownBlock = some k) W0 w' → (∀ k o, w.heap[k]? = some o → ¬ v.ownBlock = some k → w'.heap[k]? = some o) → (v.ownBlock = some g ∨ w.heap.size ≤ g) →
      K (a.put o.dst (.slice (some ⟨g, 0, none⟩) (n + m) cap)) w') :
    if Region.wanted o (yielded ops a.tmps) = true then Oper.wp P o a w K Q else E := by
  have hw := own_keeps hown hk (fun _ _ h => h)
  refine step_append_lies _ hgd s x t ho base e i z size bytes ht hi hz hsize hby hzs hsz v n xs hs hw ⟨g0, 0, none⟩ m c news.toList hx (by rw [Array.length_toList, hl]) (World.news_of_block (cs := news) (t := e) (fr := (0, 0)) hnews) h1 hm h63 hbytes (Nat.le_trans hbase hk.size) _ rfl ?_
  intro g cap w' hown1 hgrow hat _
  exact h g cap w' hown1 ((hk.mono (fun _ _ h => h.elim)).grown hgrow (fun j hj _ => hj)) (fun k ob hko hne => (hgrow.block k (heap_lt hko) (fun e => hne e.symm)).trans hko) (hat.imp id fun e => by rw [e]; exact Nat.le_refl _)
end
section
variable {W : World} {B : Nat}
theorem own_four {te : TypeId} {g n m cap : Nat} {xs ys : List Value} {a b c d u0 u1 u2 u3 : Value} (h : W.ownsRow B te 4 (.slice (some ⟨g, 0, none⟩) n cap) n (xs ++ [a, b, c, d] ++ ys)) (hx : xs.length = m) :
    ((((W.setCell ⟨g, m, none⟩ u0).setCell ⟨g, m + 1, none⟩ u1).setCell ⟨g, m + 2, none⟩ u2).setCell ⟨g, m + 3, none⟩ u3).ownsRow B te 4 (.slice (some ⟨g, 0, none⟩) n cap) n (xs ++ [u0, u1, u2, u3] ++ ys) := by
  subst hx
  have h1 := ((((h.stored xs.length u0).1.stored (xs.length + 1) u1).1.stored (xs.length + 2) u2).1.stored (xs.length + 3) u3).1
  have e : ((((xs ++ [a, b, c, d] ++ ys).set xs.length u0).set (xs.length + 1) u1).set (xs.length + 2) u2).set (xs.length + 3) u3 = xs ++ [u0, u1, u2, u3] ++ ys := by
    simp [List.append_assoc, List.set_append_right]
  rw [e] at h1
  exact h1
end
theorem four_cellsM {W : World} {B : Nat} {te : TypeId} {g n m cap : Nat} {xs ys : List Value} {a b c d : Value} (h : W.ownsRow B te 4 (.slice (some ⟨g, 0, none⟩) n cap) n (xs ++ [a, b, c, d] ++ ys)) (hx : xs.length = m) :
    W.cell? ⟨g, m, none⟩ = some a ∧ W.cell? ⟨g, m + 1, none⟩ = some b ∧ W.cell? ⟨g, m + 2, none⟩ = some c ∧ W.cell? ⟨g, m + 3, none⟩ = some d ∧ True := by
  subst hx
  have hl : (xs ++ [a, b, c, d] ++ ys).length = n * 4 := h.1
  simp only [List.length_append, List.length_cons, List.length_nil] at hl
  have e : ∀ j, j < 4 → (xs ++ [a, b, c, d] ++ ys)[xs.length + j]? = [a, b, c, d][j]? := fun j hj => by
    rw [List.append_assoc, List.getElem?_append_right (by omega), List.getElem?_append_left (by simp only [List.length_cons, List.length_nil]; omega)]
    congr 1; omega
  refine ⟨?_, ?_, ?_, ?_, trivial⟩
  · have := e 0 (by omega); rw [h.cellAt _ (by omega)]; exact this
  · rw [h.cellAt _ (by omega), e 1 (by omega)]; rfl
  · rw [h.cellAt _ (by omega), e 2 (by omega)]; rfl
  · rw [h.cellAt _ (by omega), e 3 (by omega)]; rfl
end Go.Proofs.YthchnabhbpdfgaaDoor
end
