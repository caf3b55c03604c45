/- append as a step of a region that draws its order: the new block is told by the world at hand (of XNorm). No conditions. -/
import Derived.Test.YtcbkihplchdhhaaDoorStepKept
namespace Go.Proofs.YtcbkihplchdhhaaDoor
open Go.RowKit
section
variable {P : Program} {W0 w : World}
theorem step_append_kept2 {ops : Array Oper} {o : Oper} {a : Act} {K : Act → World → Prop} {Q : Exit → Act → World → Prop} {E : Prop} (hgd : o.guard = none) (s x : Operand) (t : TypeId)
    (ho : o.op = .call { callee := .builtin .append, args := #[s, x], argTypes := #[t, t] })
    (base : Nat) (e : TypeId) (i : TypeInfo) (z : Value) (size bytes : Nat) (ht : P.underlying t = some (.slice e)) (hi : P.info? e = some i) (hz : i.zero = some z)
    (hsize : i.size = size) (hby : i.bytes = bytes) (hzs : z.cells.size = size) (hsz : 0 < size)
    (v : Value) (n : Nat) (xs : List Value) (hs : a.eval s = v) (hown : W0.ownsRow base e size v n xs) (hk : Keeps (fun _ => False) W0 w)
    (g0 : Nat) (c : Nat) (news : Array Value) (hx : a.eval x = .slice (some ⟨g0, 0, none⟩) 1 c) (hl : news.size = size) (hnews : w.heap[g0]? = some (.cells news e (0, 0))) (h1 : ∀ u ∈ news.toList, u.oneCell' = true)
    (h63 : n + 1 ≤ maxLen) (hbytes : (n + 1) * bytes ≤ 140737488355328) (hbase : base ≤ W0.heap.size)
    (h : ∀ g cap w', w'.ownsRow base e size (.slice (some ⟨g, 0, none⟩) (n + 1) cap) (n + 1) (xs ++ news.toList) → Keeps (fun k => v.ownBlock = some k) W0 w' → (∀ k o, w.heap[k]? = some o → ¬ v.ownBlock = some k → w'.heap[k]? = some o) → (v.ownBlock = some g ∨ w.heap.size ≤ g) →
      K (a.put o.dst (.slice (some ⟨g, 0, none⟩) (n + 1) cap)) w') :
    if Region.wanted o (yielded ops a.tmps) = true then Oper.wp P o a w K Q else E := by
  have hw := own_keeps hown hk (fun _ _ h => h)
  refine step_append_lies _ hgd s x t ho base e i z size bytes ht hi hz hsize hby hzs hsz v n xs hs hw ⟨g0, 0, none⟩ 1 c news.toList hx (by rw [Array.length_toList, hl, Nat.one_mul]) (World.news_of_block (cs := news) (t := e) (fr := (0, 0)) hnews) h1 (by omega) h63 hbytes (Nat.le_trans hbase hk.size) _ rfl ?_
  intro g cap w' hown1 hgrow hat _
  exact h g cap w' hown1 ((hk.mono (fun _ _ h => h.elim)).grown hgrow (fun j hj _ => hj)) (fun k ob hko hne => (hgrow.block k (heap_lt hko) (fun e => hne e.symm)).trans hko) (hat.imp id fun e => by rw [e]; exact Nat.le_refl _)
end
end Go.Proofs.YtcbkihplchdhhaaDoor
