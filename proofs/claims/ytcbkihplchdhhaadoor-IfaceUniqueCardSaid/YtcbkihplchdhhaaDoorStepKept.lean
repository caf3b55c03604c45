/- append to a row of the call's own, as a step of a region that draws its order: all facts are said of one world W0 from which the present one differs by new blocks and draws alone. No conditions. -/
import Derived.Test.YtcbkihplchdhhaaDoorBase
import Derived.Deep.RegionLaw
namespace Go.Proofs.YtcbkihplchdhhaaDoor
open Go.RowKit

section
variable {w w' W0 : World} {X : Nat → Prop}
theorem heap_lt {g : Nat} {x : Obj} (h : w.heap[g]? = some x) : g < w.heap.size := (Array.getElem?_eq_some_iff.1 h).1
theorem heap_up {g : Nat} {x : Obj} (h : w.heap[g]? = some x) (o : Obj) : (w.alloc o).heap[g]? = some x := (Below.heap_alloc w o g (heap_lt h)).trans h
theorem heap_new_at {o : Obj} {n : Nat} (h : n = w.heap.size) : (w.alloc o).heap[n]? = some o := by subst h; exact heap_alloc_new w o
theorem Keeps.heap {g : Nat} {x : Obj} (hk : Keeps X w w') (h : w.heap[g]? = some x) (hg : ¬ X g) : w'.heap[g]? = some x := (hk.block g (heap_lt h) hg).trans h
theorem Keeps.frozen {a : Addr} {b : Bool} (hk : Keeps X w w') (h : w.frozen? a = b) (hl : a.block < w.heap.size) (hg : ¬ X a.block) : w'.frozen? a = b := by
  rw [← h]; unfold World.frozen?; rw [hk.block a.block hl hg]
/-- Nothing that was there has changed. -/
abbrev Same (w w' : World) : Prop := Keeps (fun _ => False) w w'
end
theorem own_ne {v v' : Value} (h : ∀ i, v.ownBlock = some i → ¬ v'.ownBlock = some i) : v.ownBlock = none ∨ v.ownBlock ≠ v'.ownBlock := by
  cases hv : v.ownBlock with
  | none => exact .inl rfl
  | some i => exact .inr fun e => h i hv e.symm

section
variable {P : Program} {W0 w : World}
theorem step_append_kept {ops : Array Oper} {o : Oper} {a : Act} {K : Act → World → Prop} {Q : Exit → Act → World → Prop} {E : Prop} (hgd : o.guard = none) (s x : Operand) (t : TypeId)
    (ho : o.op = .call { callee := .builtin .append, args := #[s, x], argTypes := #[t, t] })
    (base : Nat) (e : TypeId) (i : TypeInfo) (z : Value) (size bytes : Nat) (ht : P.underlying t = some (.slice e)) (hi : P.info? e = some i) (hz : i.zero = some z)
    (hsize : i.size = size) (hby : i.bytes = bytes) (hzs : z.cells.size = size) (hsz : 0 < size)
    (v : Value) (n : Nat) (xs : List Value) (hs : a.eval s = v) (hown : W0.ownsRow base e size v n xs) (hk : Keeps (fun _ => False) W0 w)
    (g0 : Nat) (c : Nat) (news : Array Value) (hx : a.eval x = .slice (some ⟨g0, 0, none⟩) 1 c) (hl : news.size = size) (hnews : w.heap[g0]? = some (.cells news e (0, 0))) (h1 : ∀ u ∈ news.toList, u.oneCell' = true)
    (h63 : n + 1 ≤ maxLen) (hbytes : (n + 1) * bytes ≤ 140737488355328) (hbase : base ≤ W0.heap.size)
    (h : ∀ g cap w', w'.ownsRow base e size (.slice (some ⟨g, 0, none⟩) (n + 1) cap) (n + 1) (xs ++ news.toList) → Keeps (fun k => v.ownBlock = some k) W0 w' → (∀ k o, w.heap[k]? = some o → ¬ v.ownBlock = some k → w'.heap[k]? = some o) → (v.ownBlock = some g ∨ W0.heap.size ≤ g) →
      K (a.put o.dst (.slice (some ⟨g, 0, none⟩) (n + 1) cap)) w') :
    if Region.wanted o (yielded ops a.tmps) = true then Oper.wp P o a w K Q else E := by
  have hw := own_keeps hown hk (fun _ _ h => h)
  refine step_append_lies _ hgd s x t ho base e i z size bytes ht hi hz hsize hby hzs hsz v n xs hs hw ⟨g0, 0, none⟩ 1 c news.toList hx (by rw [Array.length_toList, hl, Nat.one_mul]) (World.news_of_block (cs := news) (t := e) (fr := (0, 0)) hnews) h1 (by omega) h63 hbytes (Nat.le_trans hbase hk.size) _ rfl ?_
  intro g cap w' hown1 hgrow hat _
  exact h g cap w' hown1 ((hk.mono (fun _ _ h => h.elim)).grown hgrow (fun j hj _ => hj)) (fun k ob hko hne => (hgrow.block k (heap_lt hko) (fun e => hne e.symm)).trans hko) (hat.imp id fun e => by rw [e]; exact hk.size)
end
end Go.Proofs.YtcbkihplchdhhaaDoor
