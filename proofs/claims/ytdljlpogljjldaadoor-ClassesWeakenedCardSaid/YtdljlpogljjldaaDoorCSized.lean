/- Reading nested slices with a bound on the inner ones (sl_of_trod of Base, with the elements' weights handed on). -/
import Derived.Test.YtdljlpogljjldaaDoorCTypes
import Derived.Test.YtdljlpogljjldaaDoorSlices
namespace Go.Proofs.YtdljlpogljjldaaDoor
open Go.RowKit Go.Shelf Go.ChangeShapes Go.WideShapes
section
variable {H : Type} {enc : TypeId × Value → H} {P : Program} {w : World} {base : Nat} {sp : Nat → Bool} {held : Bool}
theorem weights_all_mem {e : TypeId} : ∀ {L : List (DataW H)} {d : DataW H}, d ∈ L → ∀ n ∈ d.weights P e, n ∈ DataW.weightsAll P e L
  | [], _, h => by cases h
  | x :: L, d, h => fun n hn => by
    rw [DataW.weightsAll]
    rcases List.mem_cons.1 h with rfl | h
    · exact List.mem_append_left _ hn
    · exact List.mem_append_right _ (weights_all_mem h n hn)
theorem sl_of_trod_q {α : Type} {f : α → D} {Q : α → Prop} {k : Nat} {t e : TypeId} (ht : P.underlying t = some (.slice e)) (hk : P.cellsOf e = k) (h0 : 0 < k)
    (he : ∀ n cs y, DataW.trod enc P w base sp held n e cs = some y → (y.1.weights P e).all (· ≤ reachBytes) = true → ∃ x : α, Rp w (· < w.heap.size) (f x) cs ∧ Q x)
    {n : Nat} {cs : List Value} {y : DataW H × List MemPlace} (h : DataW.trod enc P w base sp held n t cs = some y) (hr : (y.1.weights P t).all (· ≤ reachBytes) = true) : ∃ l : List α, Rp w (· < w.heap.size) (.sl (l.map f)) cs ∧ ∀ x ∈ l, Q x := by
  rcases Go.Deep.open_slice ht h with ⟨rfl, _⟩ | ⟨a, len, cap, m, n', Dd, Pl, rfl, _, hlen, hcap, hm, hy, hi⟩
  · exact ⟨[], Sl.nil_, fun x hx => by cases hx⟩
  · rw [hy] at hr
    simp only [DataW.weights, ht, List.all_cons, List.all_append, Bool.and_eq_true] at hr
    have hr1 := hr.2.1
    have hm' : len ≤ m := by rw [hm]; split <;> omega
    have step : ∀ j, j ≤ len → ∃ (l : List α) (xs : List Value), (∀ x ∈ l, Q x) ∧ l.length = j ∧ RpAll w (· < w.heap.size) (l.map f) xs ∧ xs.length = j * k ∧ ∀ i u, xs[i]? = some u → w.cell? (a.add i) = some u := by
      intro j
      induction j with
      | zero => intro _; exact ⟨[], [], (fun x hx => by cases hx), rfl, by simp [RpAll], by simp, by simp⟩
      | succ j ih =>
        intro hj
        obtain ⟨l, xs, hq, h1, h2, h3, h4⟩ := ih (by omega)
        obtain ⟨cs', hc, ht'⟩ := hi j (by omega)
        obtain ⟨_, hcl, hat⟩ := World.cells?_some hc
        obtain ⟨x, hx, hqx⟩ := he _ _ _ ht' (List.all_eq_true.2 fun n hn => List.all_eq_true.1 hr1 n (weights_all_mem (List.mem_map.2 ⟨j, List.mem_range.2 (by omega), rfl⟩) n hn))
        rw [hk] at hcl hat
        refine ⟨l ++ [x], xs ++ cs', (fun y hy => by rcases List.mem_append.1 hy with h | h; exact hq y h; rw [List.mem_singleton.1 h]; exact hqx), by simp [h1], ?_, by rw [List.length_append, h3, hcl, Nat.succ_mul], fun i u hu => ?_⟩
        · rw [List.map_append]; exact RpAll.append h2 (RpAll.one hx)
        · rcases Nat.lt_or_ge i xs.length with hl | hl
          · rw [List.getElem?_append_left hl] at hu; exact h4 i u hu
          · rw [List.getElem?_append_right hl] at hu
            have hlt := (List.getElem?_eq_some_iff.1 hu).1
            have := hat (i - xs.length) (by omega)
            rw [hu, Go.Deep.add_add, h3] at this
            rw [← this]; congr 2; omega
    obtain ⟨l, xs, hq, h1, h2, h3, h4⟩ := step len (Nat.le_refl _)
    refine ⟨l, ?_, hq⟩
    simp only [Rp, List.length_map, h1]
    by_cases hz : l = []
    · subst hz
      by_cases hs : a.spot = none
      · exact ⟨some a, cap, rfl, by simp at h1; omega, hcap, (fun h => nomatch h), fun h => absurd rfl h⟩
      · exact ⟨some a, cap, rfl, by simp at h1; omega, hcap, (fun h => nomatch h), fun h => absurd rfl h⟩
    · have hpos : 0 < xs.length := by
        rw [h3]
        have : 0 < len := by rw [← h1]; exact List.length_pos_iff.2 hz
        exact Nat.mul_pos this h0
      obtain ⟨u, hu⟩ : ∃ u, xs[0]? = some u := ⟨xs[0], List.getElem?_eq_getElem hpos⟩
      have hc0 := h4 0 u hu
      have hsp : a.spot = none := by simpa [Addr.add] using World.cell?_spot hc0
      obtain ⟨g, off, spot⟩ := a
      simp only at hsp
      subst hsp
      refine ⟨some ⟨g, off, none⟩, cap, rfl, hlen, hcap, (fun h => nomatch h), fun _ => ⟨g, off, xs, rfl, ?_, h2, fun j u hj => by rw [← Go.WideShapes.add_plain]; exact h4 j u hj⟩⟩
      exact block_lt_of_cell (a := ⟨g, off, none⟩) (by simpa [Addr.add] using hc0)
end
set_option maxRecDepth 100000 in
theorem InstSig.of_trod_q {H : Type} {enc : TypeId × Value → H} {w : World} {base : Nat} {sp : Nat → Bool} {held : Bool} {n : Nat} {cs : List Value} {y : DataW H × List MemPlace} (h : DataW.trod enc Tryd.prog w base sp held n 71 cs = some y) (hr : (y.1.weights Tryd.prog 71).all (· ≤ reachBytes) = true) : ∃ x : InstSig, Rp w (· < w.heap.size) x.d cs ∧ x.preds.length * 72 ≤ 140737488351232 := by
  obtain ⟨xs, n, rfl, rfl, hlen, hxl, hf⟩ := DataW.trod_struct Tryd.underlying71 h
  have hc : Tryd.prog.cellsOf 71 = 6 := by kernel_rfl
  rw [hc] at hlen
  obtain ⟨c0, ct0, rfl, lc0⟩ := uncons hlen
  obtain ⟨c1, ct1, rfl, lc1⟩ := uncons lc0
  obtain ⟨c2, ct2, rfl, lc2⟩ := uncons lc1
  obtain ⟨c3, ct3, rfl, lc3⟩ := uncons lc2
  obtain ⟨c4, ct4, rfl, lc4⟩ := uncons lc3
  obtain ⟨c5, ct5, rfl, lc5⟩ := uncons lc4
  obtain rfl := List.eq_nil_of_length_eq_zero lc5
  obtain ⟨y0, yt0, rfl, ly0⟩ := uncons hxl
  obtain ⟨y1, yt1, rfl, ly1⟩ := uncons ly0
  obtain ⟨y2, yt2, rfl, ly2⟩ := uncons ly1
  obtain rfl := List.eq_nil_of_length_eq_zero ly2
  have e0 : DataW.trod enc Tryd.prog w base sp held n 9 [c0] = some y0 := by have := hf 0 _ rfl; simpa [show Tryd.prog.cellsOf 9 = 1 from by kernel_rfl] using this
  obtain ⟨z0, q0, _, u0⟩ := DataW.trod_string Tryd.underlying9 e0
  have e1 : DataW.trod enc Tryd.prog w base sp held n 24 [c1, c2, c3, c4] = some y1 := by have := hf 1 _ rfl; simpa [show Tryd.prog.cellsOf 24 = 4 from by kernel_rfl] using this
  obtain ⟨z1, u1⟩ := tyD.of_trod _ e1
  obtain ⟨w1, q1, u1⟩ := tyD.rp.1 u1
  simp only [Ty.cells, List.cons.injEq, and_true] at q1; obtain ⟨rfl, rfl, rfl, rfl⟩ := q1
  have e2 : DataW.trod enc Tryd.prog w base sp held n 36 [c5] = some y2 := by have := hf 2 _ rfl; simpa [show Tryd.prog.cellsOf 36 = 1 from by kernel_rfl] using this
  obtain ⟨z2, u2⟩ := sl_of_trod (f := Pred.d) (k := 5) Tryd.underlying36 (by kernel_rfl) (by decide) (fun _ _ _ h => Pred.of_trod h) e2
  simp only [List.cons.injEq, and_true] at q0; subst q0
  simp only [DataW.weights, Tryd.underlying71] at hr
  have hr2 := weight_at hr (j := 2) (t := 36) (d := y2.1) rfl rfl
  have u2' : Sl w (· < w.heap.size) Pred.d z2 c5 := u2
  obtain ⟨A5, q5, rfl, _⟩ := u2'.form
  have hb := sl_len_of_trod (f := Pred.d) Tryd.underlying36 e2 u2' hr2
  rw [show Tryd.prog.bytesOf 35 = 72 from by kernel_rfl] at hb
  exact ⟨⟨z0, z1, z2⟩, InstSig.rp.2 ⟨_, _, rfl, u0, u1, u2⟩, hb⟩
set_option maxRecDepth 100000 in
theorem insts_of_arg {H : Type} {enc : TypeId × Value → H} {w : World} {base : Nat} {sp : Nat → Bool} {held : Bool} {b0 : Nat} {r : Reach} {v : Value} {dd : DataW H} {ps : List MemPlace}
    (hval : Value.okWide Tryd.prog w r b0 45 v) (h : DataW.Trod enc Tryd.prog w base sp held 45 v dd ps) (hr : (dd.weights Tryd.prog 45).all (· ≤ reachBytes) = true) : ∃ l : List InstSig, Sl w (· < w.heap.size) InstSig.d l v ∧ ∀ x ∈ l, x.preds.length * 72 ≤ 140737488351232 := by
  obtain ⟨A, n, c, rfl⟩ := okWide_slice Tryd.underlying45 hval
  obtain ⟨fuel, hf⟩ := h
  obtain ⟨l, hl, hq⟩ := sl_of_trod_q (f := InstSig.d) (k := 6) Tryd.underlying45 (by kernel_rfl) (by decide) (fun _ _ _ h hr => InstSig.of_trod_q h hr) hf hr
  exact ⟨l, by simpa [Sl, Value.cells] using hl, hq⟩
end Go.Proofs.YtdljlpogljjldaaDoor
