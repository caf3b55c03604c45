/- scope.Sorted: what it returns, and what this says of the list. No conditions but the form's own reach. -/
import Derived.Test.YtjofndhbpglfgaaScCompactW
namespace Go.Proofs.Ytjofndhbpglfgaa
open Go.RowKit Go.Shelf Go.Sort Cpt

theorem merge_map {α β : Type} (f : α → β) (less : β → β → Bool) : ∀ (n : Nat) (l r : List α), l.length + r.length = n → Stab.merge less (l.map f) (r.map f) = (Stab.merge (fun x y => less (f x) (f y)) l r).map f
  | _, [], r, _ => by rw [Stab.merge_nil_left]; exact Stab.merge_nil_left _
  | _, x :: l, [], _ => by rw [Stab.merge_nil_right]; exact Stab.merge_nil_right _
  | 0, x :: l, y :: r, h => by simp at h
  | n + 1, x :: l, y :: r, h => by
    simp only [List.length_cons] at h
    rw [List.map_cons, List.map_cons, Stab.merge_cons, Stab.merge_cons]
    split
    · rw [List.map_cons, ← merge_map f less n (x :: l) r (by simp only [List.length_cons]; omega)]; rfl
    · rw [List.map_cons, ← merge_map f less n l (y :: r) (by simp only [List.length_cons]; omega)]; rfl
theorem isort_map {α β : Type} (f : α → β) (less : β → β → Bool) : ∀ l : List α, Stab.isort less (l.map f) = (Stab.isort (fun x y => less (f x) (f y)) l).map f
  | [] => rfl
  | x :: l => by
    show Stab.merge less [f x] (Stab.isort less (l.map f)) = (Stab.merge _ [x] (Stab.isort _ l)).map f
    rw [isort_map f less l]
    exact merge_map f less _ [x] _ rfl
def ltD (x y : Diag) : Bool := ltOf cfDg x.v4 y.v4
def sortP (l : List Diag) : List Diag := cpl (Stab.isort ltD l)

def SortedPost (l : List Diag) (W : World) (e : Ending) (w' : World) : Prop := ∃ v', e = .returned v' ∧ Sl w' (fun b => W.heap.size ≤ b) Diag.d (sortP l) v' ∧ Below W.heap.size W w'
set_option maxHeartbeats 1000000 in
theorem compact0 (A : Option Addr) (cap : Nat) (W : World) : Calls Try.prog 13 #[.slice A 0 cap] W fun e w' => e = .returned (.slice A 0 cap) ∧ w' = W := by
  go_enter Try.func13, Try.ntmps13
  go_wp2
  go_ret
  exact ⟨rfl, rfl⟩
theorem cpt_sl {W0 w' : World} {blk cap : Nat} {L : List Diag} {e : Ending} (h : CptPost W0 blk cap L e w') (hok : ∀ x ∈ L, x.Ok) (hc : (cpl L).length ≤ cap) (hm : cap ≤ maxLen) {G : Nat → Prop} (hG : G blk) :
    e = .returned (.slice (some ⟨blk, 0, none⟩) (cpl L).length cap) ∧ Sl w' G Diag.d (cpl L) (.slice (some ⟨blk, 0, none⟩) (cpl L).length cap) := by
  obtain ⟨he, _, hcl⟩ := h
  refine ⟨he, ?_⟩
  unfold Sl
  simp only [Rp, List.length_map]
  refine ⟨_, _, rfl, hc, hm, (fun h => nomatch h), fun _ => ⟨blk, 0, ((cpl L).map Diag.v4).flatMap V4.cells, rfl, hG, diags_rp.2 ⟨rfl, fun x hx => hok x ((cs_sub _ _).subset hx)⟩, fun j u hj => ?_⟩⟩
  have hjl := (List.getElem?_eq_some_iff.1 hj).1
  rw [flat4_len, List.length_map] at hjl
  have hi : j / 4 < (cpl L).length := by omega
  have h4 := hcl (j / 4) _ (List.getElem?_eq_getElem hi) (j % 4) (Nat.mod_lt _ (by omega))
  have h5 := flat4_get ((cpl L).map Diag.v4) (j / 4) _ (j % 4) (by rw [List.getElem?_map, List.getElem?_eq_getElem hi]; rfl) (Nat.mod_lt _ (by omega))
  rw [show j / 4 * 4 + j % 4 = j by omega] at h4 h5
  rw [hj] at h5
  rw [Nat.zero_add, h4, ← Option.some.inj h5]
set_option maxHeartbeats 4000000 in
theorem sorted_any (l : List Diag) (v : Value) (F : Nat → Prop) (W : World) (hv : Sl W F Diag.d l v) (hF : ∀ b, F b → b < W.heap.size) (hlen : l.length * 40 ≤ 140737488355328) :
    Calls Try.prog 4 #[v] W (SortedPost l W) := by
  have HC := Lib.hid (diagClone l v F W hv hF hlen)
  clear hv hF
  by_cases hl : l = []
  · subst hl
    have HE : Hid (sortP [] = []) := rfl
    go_enter Try.func4, Try.ntmps4
    go_wp2_with fail
    with_reducible refine HC.out.mono ?_
    rintro e w1 ⟨v1, xs, rfl, hown, hrp, hb⟩
    obtain ⟨A, cap, rfl, hcm⟩ : ∃ A cap, v1 = .slice A 0 cap ∧ cap ≤ maxLen := by
      rcases hown.2 with ⟨rfl, _⟩ | ⟨g, cap, cur, rfl, _, _, _, h, _⟩
      · exact ⟨none, 0, rfl, by unfold maxLen; omega⟩
      · exact ⟨_, _, rfl, h⟩
    have HOWN := Lib.hid hown
    have HRP := Lib.hid hrp
    have HB := Lib.hid hb
    clear hown hrp hb
    go_wp2_with (first
      | ((go_at_call 8; with_reducible refine (sortStableNilDg _ _ _).mono ?_); rintro e w2 ⟨rfl, rfl⟩)
      | ((go_at_call 13; with_reducible refine (compact0 _ _ _).mono ?_); rintro e w2 ⟨rfl, rfl⟩))
    go_ret
    refine ⟨_, rfl, ?_, HB.out⟩
    rw [HE.out]
    have hx : xs = [] := by have := HRP.out; simpa [RpAll] using this
    exact Sl.of_own (F := fun b => W.heap.size ≤ b) HOWN.out rfl (by rw [hx]; simp [RpAll]) (fun _ h => h) (fun b hb => by
      rcases HOWN.out.2 with ⟨e, _⟩ | ⟨g, c, cur, e, hg, _⟩
      · rw [e] at hb; cases hb
      · rw [e] at hb; cases hb; exact hg)
  · go_enter Try.func4, Try.ntmps4
    go_wp2_with fail
    with_reducible refine HC.out.mono ?_
    rintro e w1 ⟨v1, xs, rfl, hown, hrp, hb⟩
    obtain ⟨hxs, hok⟩ := diags_rp.1 hrp
    have hlp : 0 < l.length := List.length_pos_iff.2 hl
    obtain ⟨g, cap, rfl, hg, hnc, hcm⟩ : ∃ g cap, v1 = .slice (some ⟨g, 0, none⟩) l.length cap ∧ W.heap.size ≤ g ∧ l.length ≤ cap ∧ cap ≤ maxLen := by
      rcases hown.2 with ⟨_, h⟩ | ⟨g, cap, cur, rfl, h1, _, h2, h3, _⟩
      · omega
      · exact ⟨g, cap, rfl, h1, h2, h3⟩
    obtain ⟨d, hd⟩ : ∃ d : Array V4, d = (l.map Diag.v4).toArray := ⟨_, rfl⟩
    have hdl : d.toList = l.map Diag.v4 := by rw [hd]
    have hdz : d.size = l.length := by rw [hd]; simp
    obtain ⟨_, tl, hrow⟩ := Row.of_own (Fm := FmDg) (d := d) hown (by rw [hxs, hdl]) (fun i hi => by rw [v4_at hdl (by omega)]; exact Diag.v4_form _)
    have hls : l.length < 1125899906842624 := by omega
    have hsrt := sortStableDg (W := w1) (cap := cap) (off := 0) w1 cfDg (fun x y X h1 h2 => cmpDg x y X h1 h2) weakDg hrow rfl (by omega)
    rw [hdz] at hsrt
    have HS := Lib.hid hsrt
    have HOK := Lib.hid hok
    have HB := Lib.hid hb
    have HD := Lib.hid hdl
    have HZ := Lib.hid hdz
    have HHL := Lib.hid hl
    have HLT := Lib.hid hrow.lt
    clear hown hrp hb hxs hok hd hdl hdz hrow hsrt hl HC
    go_wp2_with ((go_at_call 8; with_reducible refine HS.out.mono ?_); rintro e w2 ⟨rfl, d2, hr2, hz2, hs2⟩)
    have hz2' : d2.size = l.length := hz2.trans HZ.out
    rw [HD.out, isort_map] at hs2
    have hcp := compact_any (cap := cap) (off := 0) (Stab.isort ltD l) hr2 hs2 rfl (by omega) (by omega)
    rw [hz2'] at hcp
    have HCP := Lib.hid hcp
    clear hcp hs2 hz2 hz2' hr2
    go_wp2_with ((go_at_call 13; with_reducible refine HCP.out.mono ?_); rintro e w3 ⟨rfl, hk3, hcl3⟩)
    have hpost : CptPost w1 g cap (Stab.isort ltD l) _ w3 := ⟨rfl, hk3, hcl3⟩
    have HP := Lib.hid hpost
    obtain ⟨_, hsl⟩ := cpt_sl hpost (fun x hx => HOK.out x ((Stab.mem_isort l).1 hx)) (by
      have h1 := (cs_sub (q := Diag.eqB) (Stab.isort ltD l) none).length_le
      rw [Stab.isort_length] at h1
      exact Nat.le_trans h1 hnc) hcm (G := fun b => W.heap.size ≤ b) hg
    have HSL := Lib.hid hsl
    clear hpost hsl hcl3 hk3
    go_wp2_with fail
    go_ret
    have hk : Keeps (fun b => W.heap.size ≤ b) W _ := (Keeps.of_below (X := fun b => W.heap.size ≤ b) HB.out).trans HP.out.2.1 (fun i _ e => by subst e; exact hg)
    exact ⟨_, rfl, HSL.out, hk.below (fun _ h => h) (Nat.le_refl _)⟩

/-! ### What this says of the list -/
def orderB (x y : Diag) : Bool := (x.line > y.line) || ((x.line == y.line) && (x.col > y.col))
theorem eqB_iff' (x y : Diag) : Diag.eqB x y = true ↔ x = y := Diag.eqB_iff
theorem ltD_weak : Stab.Weak ltD := ⟨fun a b c => weakDg.tr a.v4 b.v4 c.v4, fun a b c => weakDg.nt a.v4 b.v4 c.v4, fun a => weakDg.ir a.v4⟩
theorem sortP_apart (l : List Diag) {i : Nat} {x y : Diag} (hx : (sortP l)[i]? = some x) (hy : (sortP l)[i + 1]? = some y) : Diag.eqB x y = false ∧ (y.line < x.line) = False ∧ (x.line = y.line → (y.col < x.col) = False) := by
  have h1 := (cs_apart eqB_iff' (Stab.isort ltD l) none).2 i x y hx hy
  have h2 : Stab.Sorted ltD (sortP l) := (Stab.isort_sorted ltD_weak l).sublist (cs_sub _ _)
  obtain ⟨l1, e1⟩ := List.getElem?_eq_some_iff.1 hx
  obtain ⟨l2, e2⟩ := List.getElem?_eq_some_iff.1 hy
  have h3 := List.pairwise_iff_getElem.1 h2 i (i + 1) l1 l2 (by omega)
  rw [e1, e2] at h3
  have h4 : ¬ lexB y.line y.col y.code x.line x.col x.code := fun h => by
    have : ltD y x = true := (lt_iff y.v4 x.v4).2 h
    rw [this] at h3; cases h3
  unfold lexB at h4
  refine ⟨?_, by simp only [eq_iff_iff, iff_false]; omega, fun e => by simp only [eq_iff_iff, iff_false]; omega⟩
  rw [← Bool.not_eq_true, eqB_iff']
  intro e
  rw [e] at h1
  rw [(eqB_iff' y y).2 rfl] at h1; cases h1
theorem sortP_mem (l : List Diag) {x : Diag} (h : x ∈ l) : x ∈ sortP l := by
  rcases cs_mem (q := Diag.eqB) (fun x y => (eqB_iff' x y).1) _ none x ((Stab.mem_isort l).2 h) with h1 | h1
  · exact h1
  · cases h1
theorem sortP_len (l : List Diag) : (sortP l).length ≤ l.length := by
  have h1 := (cs_sub (q := Diag.eqB) (Stab.isort ltD l) none).length_le
  rwa [Stab.isort_length] at h1
theorem idx_mem {l : List Diag} {x : Diag} (h : x ∈ l) : decide (0 ≤ diagIdx x l) = true := by
  unfold diagIdx
  rw [idxInt_any, List.any_eq_true]
  exact ⟨x, h, (eqB_iff' x x).2 rfl⟩
end Go.Proofs.Ytjofndhbpglfgaa
