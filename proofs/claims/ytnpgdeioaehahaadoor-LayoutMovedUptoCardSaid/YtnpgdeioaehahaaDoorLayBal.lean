/- The layout's blocks are balanced, and without the inserted tokens the list is as before (plain). -/
import Derived.Test.YtnpgdeioaehahaaDoorLayD
namespace Go.Proofs.YtnpgdeioaehahaaDoor

def dstep (t : Tok) (d : Int) : Int := if t.kind = 6 then d + 1 else if t.kind = 7 then d - 1 else d
def deepR : List Tok → Int → Option Int
  | [], d => some d
  | t :: r, d => if dstep t d < 0 then none else deepR r (dstep t d)
theorem deepR_app (t : Tok) : ∀ (l : List Tok) (d d' : Int), deepR l d = some d' → 0 ≤ dstep t d' → deepR (l ++ [t]) d = some (dstep t d')
  | [], d, d', h, h0 => by
    simp only [deepR, Option.some.injEq] at h
    subst h
    rw [List.nil_append, deepR, if_neg (by omega), deepR]
  | x :: l, d, d', h, h0 => by
    rw [deepR] at h
    rw [List.cons_append, deepR]
    split at h
    · cases h
    · rename_i hn
      rw [if_neg hn]
      exact deepR_app t l _ d' h h0
def layK (t : Tok) : Bool := decide (t.kind = 6) || decide (t.kind = 7) || decide (t.kind = 8)
def plainL (l : List Tok) : List Tok := l.filter fun t => !(layK t)
def cnt : List Ctx → Int
  | [] => 0
  | c :: r => (if 0 < c.col then 1 else 0) + cnt r
theorem cnt_app (c : Ctx) : ∀ s : List Ctx, cnt (s ++ [c]) = cnt s + if 0 < c.col then 1 else 0
  | [] => by simp [cnt]
  | x :: s => by rw [List.cons_append, cnt, cnt, cnt_app c s]; omega
theorem cnt_nonneg : ∀ s : List Ctx, 0 ≤ cnt s
  | [] => Int.le_refl _
  | x :: s => by
    have := cnt_nonneg s
    rw [cnt]
    split <;> omega
theorem snoc_of_ne {α : Type} {s : List α} (h : s ≠ []) : ∃ r c, s = r ++ [c] := ⟨s.dropLast, s.getLast h, (List.dropLast_concat_getLast h).symm⟩
theorem topP_app (s : List Ctx) (c : Ctx) : topP (s ++ [c]) = c := by simp [topP]
theorem topP_nil : topP [] = zCtx := rfl
/-- What holds of the marker when the tokens of a list have been taken. -/
structure Inv (m : Mk) (done : List Tok) : Prop where
  deep : deepR m.out 0 = some (cnt m.st)
  plain : plainL m.out = done
  cols : ∀ c ∈ m.st, 0 ≤ c.col
theorem plainL_app (l : List Tok) (t : Tok) : plainL (l ++ [t]) = plainL l ++ if layK t = true then [] else [t] := by
  unfold plainL
  rw [List.filter_append]
  cases h : layK t <;> simp [h]
variable {m : Mk} {done : List Tok}
theorem Inv.semi (h : Inv m done) (t : Tok) : Inv (m.put 8 t) done := by
  refine ⟨?_, ?_, h.cols⟩
  · have := deepR_app (tokAt 8 t) m.out 0 _ h.deep (by show 0 ≤ cnt m.st; exact cnt_nonneg _)
    exact this
  · show plainL (m.out ++ [tokAt 8 t]) = done
    rw [plainL_app, h.plain, show layK (tokAt 8 t) = true from rfl, if_pos rfl, List.append_nil]
theorem Inv.close (h : Inv m done) (t : Tok) (hc : 0 < (topP m.st).col) : Inv (m.close t) done := by
  have hne : m.st ≠ [] := fun e => by rw [e] at hc; exact absurd hc (by decide)
  obtain ⟨s, c, hs⟩ := snoc_of_ne hne
  have hd := h.deep
  rw [hs, topP_app] at hc
  rw [hs, cnt_app, if_pos hc] at hd
  have h0 := cnt_nonneg s
  refine ⟨?_, ?_, fun c hc => h.cols c (by have : c ∈ m.st.dropLast := hc; exact List.dropLast_subset _ this)⟩
  · have hx := deepR_app (tokAt 7 t) m.out 0 _ hd (by show 0 ≤ cnt s + 1 - 1; omega)
    show deepR (m.out ++ [tokAt 7 t]) 0 = some (cnt m.st.dropLast)
    rw [hs, List.dropLast_concat, hx]
    show some (cnt s + 1 - 1) = _
    rw [Int.add_sub_cancel]
  · show plainL (m.out ++ [tokAt 7 t]) = done
    rw [plainL_app, h.plain, show layK (tokAt 7 t) = true from rfl, if_pos rfl, List.append_nil]
theorem Inv.pop (h : Inv m done) (hc : ¬ 0 < (topP m.st).col) : Inv m.pop done := by
  by_cases hne : m.st = []
  · have : m.pop = m := by cases m; simp only at hne; subst hne; rfl
    rw [this]; exact h
  · obtain ⟨s, c, hs⟩ := snoc_of_ne hne
    have hd := h.deep
    rw [hs, topP_app] at hc
    rw [hs, cnt_app, if_neg hc] at hd
    refine ⟨?_, h.plain, fun c hc => h.cols c (by have : c ∈ m.st.dropLast := hc; exact List.dropLast_subset _ this)⟩
    show deepR m.out 0 = some (cnt m.st.dropLast)
    rw [hs, List.dropLast_concat, hd, Int.add_zero]
theorem Inv.openPush (h : Inv m done) (t : Tok) (c : Ctx) (hc : 0 < c.col) : Inv ((m.put 6 t).push c) done := by
  have h0 := cnt_nonneg m.st
  refine ⟨?_, ?_, fun x hx => by
    have : x ∈ m.st ++ [c] := hx
    rcases List.mem_append.1 this with h1 | h1
    · exact h.cols x h1
    · rw [List.mem_singleton.1 h1]; omega⟩
  · have := deepR_app (tokAt 6 t) m.out 0 _ h.deep (by show 0 ≤ cnt m.st + 1; omega)
    show deepR (m.out ++ [tokAt 6 t]) 0 = some (cnt (m.st ++ [c]))
    rw [this, cnt_app, if_pos hc]; rfl
  · show plainL (m.out ++ [tokAt 6 t]) = done
    rw [plainL_app, h.plain, show layK (tokAt 6 t) = true from rfl, if_pos rfl, List.append_nil]
theorem Inv.openClose (h : Inv m done) (t : Tok) : Inv ((m.put 6 t).put 7 t) done := by
  have h0 := cnt_nonneg m.st
  refine ⟨?_, ?_, h.cols⟩
  · have h1 := deepR_app (tokAt 6 t) m.out 0 _ h.deep (by show 0 ≤ cnt m.st + 1; omega)
    have h2 := deepR_app (tokAt 7 t) (m.out ++ [tokAt 6 t]) 0 (cnt m.st + 1) h1 (by show 0 ≤ cnt m.st + 1 - 1; omega)
    show deepR (m.out ++ [tokAt 6 t] ++ [tokAt 7 t]) 0 = some (cnt m.st)
    rw [h2]
    show some (cnt m.st + 1 - 1) = _
    rw [Int.add_sub_cancel]
  · show plainL (m.out ++ [tokAt 6 t] ++ [tokAt 7 t]) = done
    have e6 : layK (tokAt 6 t) = true := rfl
    have e7 : layK (tokAt 7 t) = true := rfl
    rw [plainL_app, plainL_app, e6, e7]
    simp [h.plain]
theorem Inv.tok (h : Inv m done) (t : Tok) (ht : layK t = false) : Inv ⟨m.st, m.out ++ [t]⟩ (done ++ [t]) := by
  have hds : ∀ d, dstep t d = d := fun d => by
    unfold layK at ht
    simp only [Bool.or_eq_false_iff, decide_eq_false_iff_not] at ht
    unfold dstep
    rw [if_neg ht.1.1, if_neg ht.1.2]
  refine ⟨?_, ?_, h.cols⟩
  · have := deepR_app t m.out 0 _ h.deep (by rw [hds]; exact cnt_nonneg _)
    rw [hds] at this
    exact this
  · show plainL (m.out ++ [t]) = _
    rw [plainL_app, h.plain, ht]; rfl
theorem Inv.push (h : Inv m done) : Inv (m.push zCtx) done := by
  refine ⟨?_, h.plain, fun x hx => by
    have : x ∈ m.st ++ [zCtx] := hx
    rcases List.mem_append.1 this with h1 | h1
    · exact h.cols x h1
    · rw [List.mem_singleton.1 h1]; exact Int.le_refl _⟩
  show deepR m.out 0 = some (cnt (m.st ++ [zCtx]))
  rw [cnt_app, h.deep, if_neg (by decide), Int.add_zero]
theorem Inv.shutL (t : Tok) : ∀ (n : Nat) {m : Mk}, Inv m done → Inv (shutL t n m) done
  | 0, _, h => h
  | n + 1, m, h => by
    rw [Go.Proofs.YtnpgdeioaehahaaDoor.shutL]
    split
    · rename_i hc; exact Inv.shutL t n (h.close t hc)
    · exact h
theorem Inv.lineL (t : Tok) (ht : 1 ≤ t.col) : ∀ (n : Nat) {m : Mk}, Inv m done → Inv (lineL t n m) done
  | 0, _, h => h
  | n + 1, m, h => by
    rw [Go.Proofs.YtnpgdeioaehahaaDoor.lineL]
    split
    · rename_i hc; exact Inv.lineL t ht n (h.close t (by omega))
    · exact h
theorem Inv.lineP (h : Inv m done) (t : Tok) (ht : 1 ≤ t.col) : Inv (lineP t m) done := by
  unfold Go.Proofs.YtnpgdeioaehahaaDoor.lineP
  dsimp only
  split
  · exact (h.lineL t ht _).semi t
  · exact h.lineL t ht _
/-- The stack from k on has only blocks. -/
theorem innerN_le (s : List Ctx) : ∀ k, innerN s k ≤ k
  | 0 => Nat.le_refl _
  | k + 1 => by
    rw [innerN]
    split
    · exact Nat.le_refl _
    · split
      · exact Nat.le_succ_of_le (innerN_le s k)
      · exact Nat.le_refl _
theorem innerN_snoc (s : List Ctx) (c : Ctx) : ∀ k, k ≤ s.length → innerN (s ++ [c]) k = innerN s k
  | 0, _ => rfl
  | k + 1, h => by
    rw [innerN, innerN, List.getElem?_append_left (by omega), innerN_snoc s c k (by omega)]
theorem innerP_snoc (s : List Ctx) (c : Ctx) : innerP (s ++ [c]) = if 0 < c.col then innerP s ++ [c] else [] := by
  unfold innerP
  rw [List.length_append, List.length_singleton, innerN]
  have hg : (s ++ [c])[s.length]? = some c := by simp
  rw [hg]
  dsimp only
  split
  · rw [innerN_snoc s c _ (Nat.le_refl _), List.drop_append_of_le_length (innerN_le s _)]
  · rw [List.drop_of_length_le (by simp)]
theorem letsP_snoc (s : List Ctx) (c : Ctx) (h : letsP (s ++ [c]) = true) : 0 < c.col ∧ (c.op ≠ sLet → letsP s = true) := by
  unfold letsP at h
  rw [innerP_snoc] at h
  split at h
  · rename_i hc
    refine ⟨hc, fun hn => ?_⟩
    rw [List.any_append] at h
    simp only [List.any_cons, List.any_nil, Bool.or_false, Bool.or_eq_true, decide_eq_true_eq] at h
    exact h.resolve_right hn
  · cases h
theorem Inv.inL (t : Tok) : ∀ (n : Nat) {m : Mk}, m.st.length = n → Inv m done → letsP m.st = true → Inv (inL t n m) done
  | 0, _, _, h, _ => h
  | n + 1, m, hn, h, hl => by
    rw [Go.Proofs.YtnpgdeioaehahaaDoor.inL]
    have hne : m.st ≠ [] := fun e => by rw [e] at hn; cases hn
    obtain ⟨s, c, hs⟩ := snoc_of_ne hne
    rw [hs] at hl
    obtain ⟨h1, h2⟩ := letsP_snoc s c hl
    have hc : 0 < (topP m.st).col := by rw [hs, topP_app]; exact h1
    have hst : (m.close t).st = s := by show m.st.dropLast = s; rw [hs, List.dropLast_concat]
    split
    · exact h.close t hc
    · rename_i hop
      refine Inv.inL t n ?_ (h.close t hc) ?_
      · rw [hst]; rw [hs] at hn; simpa using hn
      · rw [hst]
        exact h2 (fun e => hop (by rw [hs, topP_app]; exact e))
theorem shutL_top (t : Tok) : ∀ (n : Nat) {m : Mk}, m.st.length ≤ n → ¬ 0 < (topP (shutL t n m).st).col
  | 0, m, h => by
    have : m.st = [] := List.eq_nil_of_length_eq_zero (by omega)
    rw [shutL, this]; decide
  | n + 1, m, h => by
    rw [shutL]
    split
    · refine shutL_top t n ?_
      show m.st.dropLast.length ≤ n
      rw [List.length_dropLast]; omega
    · assumption
theorem Inv.beforeP (h : Inv m done) (t : Tok) : Inv (beforeP t m) done := by
  unfold Go.Proofs.YtnpgdeioaehahaaDoor.beforeP
  split
  · dsimp only
    split
    · exact Inv.pop (h.shutL t _) (shutL_top t _ (Nat.le_refl _))
    · exact h.shutL t _
  · split
    · split
      · exact h.shutL t _
      · exact h
    · split
      · split
        · rename_i hl; exact Inv.inL t _ rfl h hl
        · exact h
      · exact h
theorem Inv.blockP (h : Inv m done) (p : Option Tok) (t : Tok) (ht : 1 ≤ t.col) : Inv (blockP p t m).1 done := by
  cases p with
  | none => exact h
  | some q =>
    unfold Go.Proofs.YtnpgdeioaehahaaDoor.blockP
    dsimp only
    split
    · exact h
    · split
      · exact h
      · split
        · exact h.openPush t ⟨t.col, q.text⟩ (by show 0 < t.col; omega)
        · exact h.openClose t
theorem Inv.stepP (h : Inv m done) (p : Option Tok) (t : Tok) (ht : 1 ≤ t.col) (hk : layK t = false) : Inv (stepP p t m) (if t.kind = 9 then done else done ++ [t]) := by
  unfold Go.Proofs.YtnpgdeioaehahaaDoor.stepP
  dsimp only
  split
  · exact h.blockP p t ht
  · have h1 : Inv (if (Go.Proofs.YtnpgdeioaehahaaDoor.blockP p t m).2 = true then Go.Proofs.YtnpgdeioaehahaaDoor.lineP t (Go.Proofs.YtnpgdeioaehahaaDoor.blockP p t m).1 else (Go.Proofs.YtnpgdeioaehahaaDoor.blockP p t m).1) done := by
      split
      · exact (h.blockP p t ht).lineP t ht
      · exact h.blockP p t ht
    have h2 := (h1.beforeP t).tok t hk
    split
    · exact h2.push
    · exact h2
theorem okL_tok : ∀ (l : List Tok) (p : Option Tok), okL p l = 0 → ∀ (a : List Tok) (e : Tok), l = a ++ [e] → (∀ t ∈ l, 1 ≤ t.line ∧ 1 ≤ t.col ∧ 0 ≤ t.kind ∧ t.kind ≤ 9 ∧ layK t = false) ∧ (∀ t ∈ a, t.kind ≠ 9) ∧ e.kind = 9
  | [], p, _, a, e, h => by simp at h
  | t :: r, p, h, a, e, he => by
    rw [okL] at h
    split at h
    · rename_i hn; exact absurd h hn
    rename_i hn
    have hok : okTok p t r.isEmpty = 0 := Classical.not_not.1 hn
    unfold okTok at hok
    split at hok
    · cases hok
    rename_i h1
    split at hok
    · cases hok
    rename_i h2
    have hk : layK t = false := by
      unfold layK
      simp only [Bool.or_eq_false_iff, decide_eq_false_iff_not]
      omega
    have hl : decide (t.kind = 9) = r.isEmpty := by
      cases hd : decide (t.kind = 9) <;> cases he : r.isEmpty
      · rfl
      · exact absurd (Or.inr (Or.inr (Or.inr (by rw [hd, he]; decide)))) h2
      · exact absurd (Or.inr (Or.inr (Or.inr (by rw [hd, he]; decide)))) h2
      · rfl
    have ht : 1 ≤ t.line ∧ 1 ≤ t.col ∧ 0 ≤ t.kind ∧ t.kind ≤ 9 ∧ layK t = false := ⟨by omega, by omega, by omega, by omega, hk⟩
    cases a with
    | nil =>
      have he := List.cons.inj he
      obtain ⟨rfl, rfl⟩ := he
      exact ⟨fun x hx => by rw [List.mem_singleton.1 hx]; exact ht, (fun x hx => by cases hx), of_decide_eq_true (by rw [hl]; rfl)⟩
    | cons b a =>
      have he := List.cons.inj he
      obtain ⟨rfl, hr⟩ := he
      obtain ⟨g1, g2, g3⟩ := okL_tok r (some t) h a e hr
      refine ⟨fun x hx => ?_, fun x hx => ?_, g3⟩
      · rcases List.mem_cons.1 hx with rfl | hx
        · exact ht
        · exact g1 x hx
      · rcases List.mem_cons.1 hx with rfl | hx
        · refine of_decide_eq_false ?_
          rw [hl, hr]
          cases a <;> rfl
        · exact g2 x hx
theorem Inv.goM : ∀ (l : List Tok) (p : Option Tok) {m : Mk} {done : List Tok}, Inv m done → (∀ t ∈ l, 1 ≤ t.col ∧ layK t = false ∧ t.kind ≠ 9) → Inv (goM p l m) (done ++ l)
  | [], p, m, done, h, _ => by rw [Go.Proofs.YtnpgdeioaehahaaDoor.goM, List.append_nil]; exact h
  | t :: r, p, m, done, h, hl => by
    rw [Go.Proofs.YtnpgdeioaehahaaDoor.goM]
    have ht := hl t List.mem_cons_self
    have h1 := h.stepP p t ht.1 ht.2.1
    rw [if_neg ht.2.2] at h1
    have h2 := Inv.goM r (some t) h1 (fun x hx => hl x (List.mem_cons_of_mem _ hx))
    rw [List.append_assoc] at h2
    exact h2
theorem Inv.endL (t : Tok) : ∀ (n : Nat) {m : Mk}, m.st.length = n → Inv m done → Inv (endL t n m) done ∧ (endL t n m).st = []
  | 0, m, hn, h => ⟨h, List.eq_nil_of_length_eq_zero hn⟩
  | n + 1, m, hn, h => by
    rw [Go.Proofs.YtnpgdeioaehahaaDoor.endL]
    split
    · rename_i hc
      exact Inv.endL t n (by show m.st.dropLast.length = n; rw [List.length_dropLast]; omega) (h.close t hc)
    · rename_i hc
      exact Inv.endL t n (by show m.st.dropLast.length = n; rw [List.length_dropLast]; omega) (h.pop hc)
theorem goM_app : ∀ (a : List Tok) (p : Option Tok) (e : Tok) (m : Mk), ∃ q, goM p (a ++ [e]) m = stepP q e (goM p a m)
  | [], p, _, _ => ⟨p, rfl⟩
  | t :: a, p, e, m => goM_app a (some t) e (stepP p t m)
/-- The plain law of LayoutBalanced. -/
theorem mark_balanced {l : List Tok} {e : Tok} (h : layChk l = 0) (he : l.getLast? = some e) : deepR (markP l e) 0 = some 0 ∧ plainL (markP l e) = l := by
  unfold layChk at h
  split at h
  · cases h
  rw [he] at h
  dsimp only at h
  split at h
  · cases h
  have hne : l ≠ [] := fun hh => by rw [hh] at he; cases he
  obtain ⟨a, e', hl⟩ := snoc_of_ne hne
  obtain rfl : e = e' := by rw [hl] at he; simpa using he.symm
  obtain ⟨g1, g2, g3⟩ := okL_tok l none h a e hl
  have hem : e ∈ l := by rw [hl]; simp
  have ham : ∀ t ∈ a, t ∈ l := fun t ht => by rw [hl]; exact List.mem_append_left _ ht
  have h0 : Inv ⟨[], []⟩ [] := ⟨rfl, rfl, fun c hc => by cases hc⟩
  have h1 := h0.goM a none (fun t ht => ⟨(g1 t (ham t ht)).2.1, (g1 t (ham t ht)).2.2.2.2, g2 t ht⟩)
  rw [List.nil_append] at h1
  obtain ⟨q, hq⟩ := goM_app a none e ⟨[], []⟩
  have h2 := h1.stepP q e (g1 e hem).2.1 (g1 e hem).2.2.2.2
  rw [if_pos g3, ← hq, ← hl] at h2
  obtain ⟨h3, h4⟩ := Inv.endL e _ rfl h2
  have h5 := h3.tok e (g1 e hem).2.2.2.2
  have hd := h5.deep
  have hp := h5.plain
  unfold markP
  dsimp only at hd hp ⊢
  rw [h4] at hd
  exact ⟨hd, by rw [hp, hl]⟩
end Go.Proofs.YtnpgdeioaehahaaDoor
