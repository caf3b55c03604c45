/- An argument that is a slice of strings, with the form's reach: the bytes of each string. -/
import Derived.Test.YtpeabfbljiaedaaSlices
namespace Go.Proofs.Ytpeabfbljiaedaa
open Go.RowKit Go.ChangeShapes Go.WideShapes
section
variable {H : Type} {enc : TypeId × Value → H} {P : Program} {w : World} {base : Nat} {sp : Nat → Bool} {held : Bool}
theorem weightsAll_in {e : TypeId} : ∀ {l : List (DataW H)} {d : DataW H}, d ∈ l → ∀ n ∈ d.weights P e, n ∈ DataW.weightsAll P e l
  | x :: l, d, h, n, hn => by
    simp only [DataW.weightsAll, List.mem_append]
    rcases List.mem_cons.1 h with rfl | h
    · exact .inl hn
    · exact .inr (weightsAll_in h n hn)
theorem strs_of_arg {t e : TypeId} {b0 : Nat} {r : Reach} {v : Value} {dd : DataW H} {ps : List MemPlace} (ht : P.underlying t = some (.slice e)) (he : P.underlying e = some .string) (hk : P.cellsOf e = 1)
    (hval : Value.okWide P w r b0 t v) (h : DataW.Trod enc P w base sp held t v dd ps) (hr : (dd.weights P t).all (· ≤ reachBytes) = true) :
    ∃ l : List ByteArray, Sl w (· < w.heap.size) dStr l v ∧ l.length * P.bytesOf e ≤ 140737488351232 ∧ ∀ x ∈ l, x.size ≤ 140737488351232 := by
  obtain ⟨l, hs, hb⟩ := sl_of_arg_sized (f := dStr) (k := 1) ht hk (by decide) (fun _ _ _ h => dStr.of_trod he h) hval h hr
  refine ⟨l, hs, hb, fun x hx => ?_⟩
  obtain ⟨A, n, c, rfl⟩ := okWide_slice ht hval
  obtain ⟨fuel, hf⟩ := h
  obtain ⟨i, hi, rfl⟩ := List.getElem_of_mem hx
  obtain ⟨A', c', e1, _⟩ := hs.form
  simp only [Value.slice.injEq] at e1
  obtain ⟨rfl, rfl, rfl⟩ := e1
  obtain ⟨g, off, rfl, _, c0, _⟩ := dStr.get hs hi
  rcases Go.Deep.open_slice ht (by simpa [Value.cells] using hf) with ⟨h0, _⟩ | ⟨a, len', cap', m, n', Dd, Pl, h0, _, hlen, hcap, hm, hy, hat⟩
  · simp at h0
  · simp at h0
    obtain ⟨rfl, rfl, rfl⟩ := h0
    obtain ⟨cs', hc, htr⟩ := hat i (by rw [hm]; split <;> omega)
    obtain ⟨s, rfl, hd, _⟩ := DataW.trod_string he htr
    rw [hk, Nat.mul_one] at hc
    have h1 := (World.cells?_some hc).2.2 0 (by decide)
    rw [Go.Deep.add_add, Nat.add_zero, Go.WideShapes.add_plain, c0] at h1
    simp at h1
    have hy1 : dd = _ := congrArg Prod.fst hy
    rw [hy1] at hr
    simp only [DataW.weights, ht, List.all_cons, List.all_append, Bool.and_eq_true] at hr
    have hD : Dd i ∈ (List.range l.length).map Dd := List.mem_map.2 ⟨i, by simp [hi], rfl⟩
    have hw := List.all_eq_true.1 hr.2.1 s.data.toList.length (weightsAll_in hD _ (by
      have e2 : Dd i = .lit (.string s.data.toList) := congrArg Prod.fst hd
      rw [e2]; simp [DataW.weights]))
    simp only [decide_eq_true_eq] at hw
    unfold reachBytes at hw
    rw [h1]
    have e3 : s.size = s.data.toList.length := by rw [Array.length_toList]; rfl
    omega
end
end Go.Proofs.Ytpeabfbljiaedaa
