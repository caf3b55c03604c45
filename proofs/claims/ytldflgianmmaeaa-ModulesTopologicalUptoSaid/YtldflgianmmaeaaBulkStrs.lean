/- What the second form's bound says of a list of lists of strings. -/
import Derived.Test.YtldflgianmmaeaaCycB
import Derived.Deep.Slices
namespace Go.Proofs.Ytldflgianmmaeaa
open Go Go.RowKit

theorem sum_bulk {H : Type} : ∀ (l : List (List Bt)) (ds : List (DataW H)), l.length = ds.length → (∀ (i : Nat) a d, l[i]? = some a → ds[i]? = some d → a.length ≤ Rows.uptoBulk d) → total l ≤ Rows.uptoBulkAll ds
  | [], ds, _, _ => by simp [total]
  | a :: l, [], h, _ => by simp at h
  | a :: l, d :: ds, h, hi => by
    have h1 := hi 0 a d rfl rfl
    have h2 := sum_bulk l ds (by simpa using h) (fun i x y hx hy => hi (i + 1) x y (by simpa using hx) (by simpa using hy))
    simp only [Rows.uptoBulkAll]
    unfold total at *
    rw [List.map_cons, List.sum_cons]
    omega
theorem bulk_mem {H : Type} {d : DataW H} {l : List (DataW H)} (h : d ∈ l) : Rows.uptoBulk d ≤ Rows.uptoBulkAll l := by
  induction l with
  | nil => cases h
  | cons x r ih =>
    simp only [Rows.uptoBulkAll]
    rcases List.mem_cons.1 h with e | e
    · subst e; omega
    · have := ih e; omega
theorem bulk_pos {H : Type} (d : DataW H) : 1 ≤ Rows.uptoBulk d := by
  cases d with
  | lit l => cases l <;> simp [Rows.uptoBulk]
  | _ => simp [Rows.uptoBulk]
theorem bulk_length {H : Type} : ∀ l : List (DataW H), l.length ≤ Rows.uptoBulkAll l
  | [] => by simp [Rows.uptoBulkAll]
  | x :: r => by have := bulk_pos x; have := bulk_length r; simp only [Rows.uptoBulkAll, List.length_cons]; omega
theorem bulk_slice {H : Type} (a b : List (DataW H)) : Rows.uptoBulkAll a + 1 ≤ Rows.uptoBulk (.slice a b) := by
  simp only [Rows.uptoBulk]; omega

section
variable {H : Type} {enc : TypeId × Value → H} {P : Program} {w : World} {base : Nat} {sp : Nat → Bool} {held : Bool}
/-- A list's length is within its bulk. -/
theorem bulk_of_sl {α : Type} {f : α → D} {F : Nat → Prop} {t e : TypeId} {l : List α} {v : Value} {n : Nat} {y : DataW H × List MemPlace} (ht : P.underlying t = some (.slice e)) (hs : Sl w F f l v) (h : DataW.trod enc P w base sp held n t [v] = some y) : l.length ≤ Rows.uptoBulk y.1 := by
  obtain ⟨A, c, rfl, _⟩ := hs.form
  rcases Go.Deep.open_slice ht h with ⟨h0, _⟩ | ⟨a, len, cap, m, n', Dd, Pl, h0, _, hlen, hcap, hm, hy, hat⟩
  · simp only [List.cons.injEq, Value.slice.injEq, and_true] at h0
    omega
  · simp only [List.cons.injEq, Value.slice.injEq, and_true] at h0
    obtain ⟨rfl, rfl, rfl⟩ := h0
    rw [hy]
    dsimp only
    have h1 := bulk_slice ((List.range l.length).map Dd) ((List.range (m - l.length)).map fun j => Dd (l.length + j))
    have h2 := bulk_length ((List.range l.length).map Dd)
    rw [List.length_map, List.length_range] at h2
    omega
theorem strss_bulk {t e s : TypeId} {l : List (List Bt)} {v : Value} {F : Nat → Prop} {dd : DataW H} {ps : List MemPlace} (ht : P.underlying t = some (.slice e)) (he : P.underlying e = some (.slice s)) (hk : P.cellsOf e = 1)
    (hs : Sl w F dStrs l v) (h : DataW.Trod enc P w base sp held t v dd ps) : total l ≤ Rows.uptoBulk dd := by
  obtain ⟨A, c, rfl, _⟩ := hs.form
  obtain ⟨fuel, hf⟩ := h
  rcases Go.Deep.open_slice ht (by simpa [Value.cells] using hf) with ⟨h0, _⟩ | ⟨a, len, cap, m, n', Dd, Pl, h0, _, hlen, hcap, hm, hy, hat⟩
  · simp only [List.cons.injEq, Value.slice.injEq, and_true] at h0
    have hl := List.eq_nil_of_length_eq_zero h0.2.1
    subst hl
    simp [total]
  · simp only [List.cons.injEq, Value.slice.injEq, and_true] at h0
    obtain ⟨rfl, rfl, rfl⟩ := h0
    have hy1 : dd = _ := congrArg Prod.fst hy
    rw [hy1]
    refine Nat.le_trans (sum_bulk l ((List.range l.length).map Dd) (by simp) fun i x d hx hd => ?_) (Nat.le_trans (Nat.le_add_right _ 1) (bulk_slice _ _))
    have hi : i < l.length := (List.getElem?_eq_some_iff.1 hx).1
    rw [List.getElem?_map, List.getElem?_range hi] at hd
    obtain rfl : Dd i = d := by simpa using hd
    obtain ⟨g, off, lv, hadr, _, c0, hlv⟩ := dStrs.get hs hi
    obtain rfl := Option.some.inj hadr
    obtain ⟨cs', hc, htr⟩ := hat i (by rw [hm]; split <;> omega)
    rw [hk, Nat.mul_one] at hc
    obtain ⟨_, hlen1, hat1⟩ := World.cells?_some hc
    obtain ⟨u, r, rfl, hr⟩ := uncons hlen1
    obtain rfl := List.eq_nil_of_length_eq_zero hr
    have h1 := hat1 0 (by decide)
    rw [Go.Deep.add_add, Nat.add_zero, Go.WideShapes.add_plain, c0] at h1
    obtain rfl : lv = u := by simpa using h1
    have h2 := bulk_of_sl he hlv htr
    obtain rfl : l[i] = x := by rw [List.getElem?_eq_getElem hi] at hx; simpa using hx
    exact h2
end
end Go.Proofs.Ytldflgianmmaeaa
