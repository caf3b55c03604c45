/- modules.After: the list that it builds, in memory and in plain words. -/
import Derived.Test.YtldflgianmmaeaaModCheck
namespace Go.Proofs.Ytldflgianmmaeaa
open Go.RowKit Go.Shelf

/-- The list under way: a variable that the closure shares, and the slice that the call has made. -/
structure Out (w W : World) (b : Nat) (v : Value) (out : List ByteArray) : Prop where
  blk : Blk W b 22 [v]
  own : W.ownsRow (b + 1) 9 1 v out.length (out.map Value.string)
  small : ∀ y ∈ out, y.size ≤ maxLen
  low : w.heap.size ≤ b
  later : Below w.heap.size w W

theorem rp_strs (W : World) : ∀ (l : List ByteArray), (∀ y ∈ l, y.size ≤ maxLen) → ∀ F : Nat → Prop, RpAll W F (l.map dStr) (l.map Value.string) := by
  intro l
  induction l with
  | nil => intro _ F; simp [RpAll]
  | cons y l ih => intro hl F; rw [List.map_cons, rpAll_cons]; exact ⟨[.string y], l.map Value.string, rfl, rp_str.2 ⟨rfl, hl y (by simp)⟩, ih (fun z hz => hl z (by simp [hz])) F⟩

theorem Out.sl {w W : World} {b : Nat} {v : Value} {out : List ByteArray} (h : Out w W b v out) : Sl W (fun _ => True) dStr out v :=
  Sl.of_own (F := fun _ => False) h.own rfl (rp_strs W out h.small _) (fun _ h => h.elim) (fun _ _ => trivial)

theorem Out.push {w W w1 : World} {b : Nat} {v v' : Value} {out : List ByteArray} {x : ByteArray} (h : Out w W b v out) (hk : Keeps (fun j => b + 1 ≤ j) W w1)
    (hown : w1.ownsRow (b + 1) 9 1 v' (out.length + 1) (out.map Value.string ++ [.string x])) (hx : x.size ≤ maxLen) :
    Out w (w1.setCell ⟨b, 0, none⟩ v') b v' (out ++ [x]) := by
  have hb1 : Blk w1 b 22 [v] := h.blk.keeps hk (by omega)
  have k2 : Keeps (fun j => j = b) w1 (w1.setCell ⟨b, 0, none⟩ v') := (Keeps.refl (fun j => j = b) w1).setCell (p := ⟨b, 0, none⟩) (fun _ => rfl) v'
  refine ⟨hb1.set_ 0 v', ?_, fun y hy => ?_, h.low, ?_⟩
  · have := own_keeps hown k2 (fun i hi he => by have := (hown.lt i hi).1; omega)
    rw [List.length_append, List.map_append]
    exact this
  · rcases List.mem_append.1 hy with hy | hy
    · exact h.small y hy
    · rw [List.mem_singleton.1 hy]; exact hx
  · have hwz := h.later.size
    have b1 : Below w.heap.size W w1 := hk.below (fun i hi => by have := h.low; omega) hwz
    have b2 : Below w.heap.size w1 (w1.setCell ⟨b, 0, none⟩ v') := k2.below (fun i hi => by have := h.low; omega) (Nat.le_trans hwz b1.size)
    exact (h.later.trans b1).trans b2

def isIn (l : List ByteArray) (x : ByteArray) : Bool := l.any fun y => decide (x = y)
theorem isIn_iff {l : List ByteArray} {x : ByteArray} : isIn l x = true ↔ x ∈ l := by
  simp [isIn, List.any_eq_true]
theorem isIn_no {l : List ByteArray} {x : ByteArray} : isIn l x = false ↔ x ∉ l := by
  rw [← isIn_iff]; simp

/-- How many names are not in a list. -/
def cnt (N out : List ByteArray) : Nat := (N.filter fun x => !(isIn out x)).length
theorem cnt_le (N out : List ByteArray) : cnt N out ≤ N.length := List.length_filter_le _ _
theorem cnt_push {N out : List ByteArray} {x : ByteArray} (hx : x ∈ N) (hn : x ∉ out) : cnt N (out ++ [x]) < cnt N out := by
  unfold cnt
  have hsub : (N.filter fun y => !(isIn (out ++ [x]) y)) = (N.filter fun y => !(isIn out y)).filter fun y => !(decide (y = x)) := by
    rw [List.filter_filter]
    refine List.filter_congr fun y _ => ?_
    simp [isIn, Bool.and_comm]
  rw [hsub]
  refine List.length_filter_lt_length_iff_exists.2 ⟨x, List.mem_filter.2 ⟨hx, by rw [isIn_no.2 hn]; rfl⟩, by simp⟩

/-- Nothing that is left imports something of the list. -/
def Closed (N : List ByteArray) (I : List (List ByteArray)) (out : List ByteArray) : Prop :=
  ∀ (j : Nat) x l, N[j]? = some x → I[j]? = some l → x ∉ out → ∀ m ∈ l, m ∉ out

structure Pl (N : List ByteArray) (I : List (List ByteArray)) (Ch out : List ByteArray) : Prop where
  has : ∀ x ∈ Ch, x ∈ out
  sub : ∀ x ∈ out, x ∈ N
  least : Closed N I Ch → ∀ x ∈ out, x ∈ Ch
  len : out.length + cnt N out ≤ Ch.length + N.length

theorem Pl.push {N : List ByteArray} {I : List (List ByteArray)} {Ch out : List ByteArray} {x : ByteArray} (h : Pl N I Ch out) {j : Nat} {l : List ByteArray} (hj : N[j]? = some x) (hl : I[j]? = some l) (hn : x ∉ out) (hm : l.any (isIn out) = true) :
    Pl N I Ch (out ++ [x]) := by
  have hx := List.mem_of_getElem? hj
  refine ⟨fun y hy => List.mem_append_left _ (h.has y hy), fun y hy => ?_, fun hc y hy => ?_, ?_⟩
  · rcases List.mem_append.1 hy with hy | hy
    · exact h.sub y hy
    · rw [List.mem_singleton.1 hy]; exact hx
  · rcases List.mem_append.1 hy with hy | hy
    · exact h.least hc y hy
    · rw [List.mem_singleton.1 hy]
      obtain ⟨m, hm1, hm2⟩ := List.any_eq_true.1 hm
      refine Classical.byContradiction fun hxc => ?_
      exact hc j x l hj hl hxc m hm1 (h.least hc m (isIn_iff.1 hm2))
  · have := cnt_push hx hn
    have := h.len
    rw [List.length_append, List.length_singleton]; omega

theorem Pl.room {N : List ByteArray} {I : List (List ByteArray)} {Ch out : List ByteArray} {x : ByteArray} (h : Pl N I Ch out) (hx : x ∈ N) (hn : x ∉ out) : out.length + 1 ≤ Ch.length + N.length := by
  have := cnt_push hx hn
  have := h.len
  omega
end Go.Proofs.Ytldflgianmmaeaa
