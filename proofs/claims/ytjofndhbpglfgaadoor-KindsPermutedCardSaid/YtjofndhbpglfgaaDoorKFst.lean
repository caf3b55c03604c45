/- kinds: what 's.first = append(s.first, ..)' does. -/
import Derived.Test.YtjofndhbpglfgaaDoorKHof
namespace Go.Proofs.YtjofndhbpglfgaaDoor
open Go.RowKit Go.Shelf

section
variable {W : World} {B p : Nat} {known : List KindSig} {datas : List DataSig} {first up : List Nat} {kind : List Int} {kv dv fv uv cv : Value}
theorem Sv.firsted (h : Sv W B p known datas first up kind kv dv fv uv cv) (hB : B ≤ W.heap.size) (f : Nat) {w2 : World} {g1 c1 : Nat}
    (o1 : w2.ownsRow B 3 1 (.slice (some ⟨g1, 0, none⟩) (first.length + 1) c1) (first.length + 1) (ints first ++ (#[.int .i64 (f : Int)] : Array Value).toList)) (k1 : Keeps (fun k => fv.ownBlock = some k) W w2) (a1 : fv.ownBlock = some g1 ∨ W.heap.size ≤ g1) :
    Sv (w2.setCell ⟨p, 2, none⟩ (.slice (some ⟨g1, 0, none⟩) (first.length + 1) c1)) B p known datas (first ++ [f]) up kind kv dv (.slice (some ⟨g1, 0, none⟩) (first.length + 1) c1) uv cv ∧
      Below B W (w2.setCell ⟨p, 2, none⟩ (.slice (some ⟨g1, 0, none⟩) (first.length + 1) c1)) := by
  have hUlt := h.uo.lt
  have hClt := h.co.lt
  have hFlt := h.fo.lt
  have hnU := own_not h.uo h.blk (by decide)
  have hnC := own_not h.co h.blk (by decide)
  have hnF := own_not h.fo h.blk (by decide)
  have hs1 := k1.size
  have b2 := h.blk.keeps k1 hnF
  have k3 : Keeps (· = p) w2 (w2.setCell ⟨p, 2, none⟩ (.slice (some ⟨g1, 0, none⟩) (first.length + 1) c1)) := (Keeps.refl (· = p) w2).setCell (p := ⟨p, 2, none⟩) (fun _ => rfl) _
  have o1p := own_not o1 b2 (by decide)
  have hU2 := own_keeps h.uo k1 (fun i hi hc => h.fu i hc hi)
  have hC2 := own_keeps h.co k1 (fun i hi hc => h.fc i hc hi)
  have hlow : ∀ (i : Nat), i < B → ¬ fv.ownBlock = some i ∧ i ≠ p := fun i hi => ⟨fun e => by have := (hFlt i e).1; omega, by have := h.low; omega⟩
  refine ⟨⟨b2.set_ 2 _, ?_, own_keeps hU2 k3 (fun i hi e => hnU (by rw [hi, e])), own_keeps hC2 k3 (fun i hi e => hnC (by rw [hi, e])), ?_, ?_, h.uc, ?_, ?_, h.low⟩, ?_⟩
  · have := own_keeps o1 k3 (fun i hi e => o1p (by rw [hi, e]))
    simpa [ints] using this
  · intro i hi hc
    have e : g1 = i := by simpa [Value.ownBlock] using hi
    have := (hUlt i hc).2
    rcases a1 with a | a
    · exact h.fu i (by rw [← e]; exact a) hc
    · omega
  · intro i hi hc
    have e : g1 = i := by simpa [Value.ownBlock] using hi
    have := (hClt i hc).2
    rcases a1 with a | a
    · exact h.fc i (by rw [← e]; exact a) hc
    · omega
  · exact (h.kn.keeps k1 (fun i hi e => (hlow i hi).1 e)).keeps k3 (fun i hi e => (hlow i hi).2 e)
  · exact (h.dt.keeps k1 (fun i hi e => (hlow i hi).1 e)).keeps k3 (fun i hi e => (hlow i hi).2 e)
  · exact (k1.below (fun i hi => (hFlt i hi).1) hB).trans (k3.below (fun i hi => by rw [hi]; exact h.low) (by omega))
end
end Go.Proofs.YtjofndhbpglfgaaDoor
