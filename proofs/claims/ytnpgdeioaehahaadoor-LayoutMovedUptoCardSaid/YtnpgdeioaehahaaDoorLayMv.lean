/- Moving tokens to the right moves what the layout makes of them (plain). -/
import Derived.Test.YtnpgdeioaehahaaDoorLayBal
namespace Go.Proofs.YtnpgdeioaehahaaDoor

def Tok.right (d : Int) (x : Tok) : Tok := { x with col := x.col + d }
def Ctx.right (d : Int) (c : Ctx) : Ctx := if 0 < c.col then { c with col := c.col + d } else c
def Mk.right (d : Int) (m : Mk) : Mk := ⟨m.st.map (Ctx.right d), m.out.map (Tok.right d)⟩
section
variable {d : Int} (hd : 0 ≤ d)
theorem tokAt_right (k : Int) (t : Tok) : tokAt k (t.right d) = (tokAt k t).right d := rfl
theorem right_op (c : Ctx) : (c.right d).op = c.op := by unfold Ctx.right; split <;> rfl
theorem zCtx_right : zCtx.right d = zCtx := by unfold Ctx.right; rw [if_neg (by decide)]
theorem topP_right (s : List Ctx) : topP (s.map (Ctx.right d)) = (topP s).right d := by
  unfold topP
  rw [List.getLast?_map]
  cases s.getLast? with
  | none => exact zCtx_right.symm
  | some c => rfl
theorem put_right (m : Mk) (k : Int) (t : Tok) : (m.right d).put k (t.right d) = (m.put k t).right d := by
  unfold Mk.put Mk.right
  simp [tokAt_right]
theorem pop_right (m : Mk) : (m.right d).pop = m.pop.right d := by
  unfold Mk.pop Mk.right
  simp [List.map_dropLast]
theorem close_right (m : Mk) (t : Tok) : (m.right d).close (t.right d) = (m.close t).right d := by
  unfold Mk.close
  rw [put_right, pop_right]
theorem push_right (m : Mk) (c : Ctx) : (m.right d).push (c.right d) = (m.push c).right d := by
  unfold Mk.push Mk.right
  simp
theorem len_right (m : Mk) : (m.right d).st.length = m.st.length := by unfold Mk.right; simp
include hd
theorem pos_right (c : Ctx) : 0 < (c.right d).col ↔ 0 < c.col := by
  unfold Ctx.right
  split
  · rename_i h
    exact ⟨fun _ => h, fun _ => by show 0 < c.col + d; omega⟩
  · exact Iff.rfl
theorem zero_right (c : Ctx) : (c.right d).col = 0 ↔ c.col = 0 := by
  unfold Ctx.right
  split
  · rename_i h
    have e : ({ c with col := c.col + d } : Ctx).col = c.col + d := rfl
    rw [e]; omega
  · exact Iff.rfl
theorem lt_right (t : Tok) (ht : 1 ≤ t.col) (c : Ctx) : (t.right d).col < (c.right d).col ↔ t.col < c.col := by
  have e : (t.right d).col = t.col + d := rfl
  rw [e]
  unfold Ctx.right
  split
  · rename_i h
    have e2 : ({ c with col := c.col + d } : Ctx).col = c.col + d := rfl
    rw [e2]; omega
  · omega
theorem eq_right (t : Tok) (ht : 1 ≤ t.col) (c : Ctx) : (c.right d).col = (t.right d).col ↔ c.col = t.col := by
  have e : (t.right d).col = t.col + d := rfl
  rw [e]
  unfold Ctx.right
  split
  · have e2 : ({ c with col := c.col + d } : Ctx).col = c.col + d := rfl
    rw [e2]; omega
  · omega
theorem shutL_right (t : Tok) : ∀ (n : Nat) (m : Mk), shutL (t.right d) n (m.right d) = (shutL t n m).right d
  | 0, _ => rfl
  | n + 1, m => by
    rw [shutL, shutL]
    have e : topP (m.right d).st = (topP m.st).right d := topP_right m.st
    rw [e]
    by_cases h : 0 < (topP m.st).col
    · rw [if_pos h, if_pos ((pos_right hd _).2 h), close_right, shutL_right t n]
    · rw [if_neg h, if_neg (fun hh => h ((pos_right hd _).1 hh))]
theorem lineL_right (t : Tok) (ht : 1 ≤ t.col) : ∀ (n : Nat) (m : Mk), lineL (t.right d) n (m.right d) = (lineL t n m).right d
  | 0, _ => rfl
  | n + 1, m => by
    rw [lineL, lineL]
    have e : topP (m.right d).st = (topP m.st).right d := topP_right m.st
    rw [e]
    by_cases h : t.col < (topP m.st).col
    · rw [if_pos h, if_pos ((lt_right hd t ht _).2 h), close_right, lineL_right t ht n]
    · rw [if_neg h, if_neg (fun hh => h ((lt_right hd t ht _).1 hh))]
theorem shutP_right (t : Tok) (m : Mk) : shutP (t.right d) (m.right d) = (shutP t m).right d := by
  unfold shutP
  rw [len_right, shutL_right hd]
theorem lineP_right (t : Tok) (ht : 1 ≤ t.col) (m : Mk) : lineP (t.right d) (m.right d) = (lineP t m).right d := by
  unfold lineP
  dsimp only
  rw [len_right, lineL_right hd t ht]
  have e : topP ((lineL t m.st.length m).right d).st = (topP (lineL t m.st.length m).st).right d := topP_right _
  rw [e]
  by_cases h : (topP (lineL t m.st.length m).st).col = t.col
  · rw [if_pos h, if_pos ((eq_right hd t ht _).2 h), put_right]
  · rw [if_neg h, if_neg (fun hh => h ((eq_right hd t ht _).1 hh))]
theorem innerN_right (s : List Ctx) : ∀ k, innerN (s.map (Ctx.right d)) k = innerN s k
  | 0 => rfl
  | k + 1 => by
    rw [innerN, innerN, List.getElem?_map]
    cases hc : s[k]? with
    | none => rfl
    | some c =>
      dsimp only [Option.map_some]
      by_cases h : 0 < c.col
      · rw [if_pos h, if_pos ((pos_right hd c).2 h), innerN_right s k]
      · rw [if_neg h, if_neg (fun hh => h ((pos_right hd c).1 hh))]
theorem letsP_right (s : List Ctx) : letsP (s.map (Ctx.right d)) = letsP s := by
  unfold letsP innerP
  rw [List.length_map, innerN_right hd, ← List.map_drop, List.any_map]
  congr 1
  funext c
  show decide ((c.right d).op = sLet) = _
  rw [right_op]
omit hd in
theorem inL_right (t : Tok) : ∀ (n : Nat) (m : Mk), inL (t.right d) n (m.right d) = (inL t n m).right d
  | 0, _ => rfl
  | n + 1, m => by
    rw [inL, inL]
    have e : topP (m.right d).st = (topP m.st).right d := topP_right m.st
    rw [e, right_op, close_right]
    by_cases h : (topP m.st).op = sLet
    · rw [if_pos h, if_pos h]
    · rw [if_neg h, if_neg h, inL_right t n]
theorem beforeP_right (t : Tok) (m : Mk) : beforeP (t.right d) (m.right d) = (beforeP t m).right d := by
  have e1 : ∀ k s, isP (t.right d) k s = isP t k s := fun _ _ => rfl
  unfold beforeP
  rw [e1, e1, e1, e1, shutP_right hd, len_right]
  have e3 : (m.right d).st.any (fun c => decide (c.col = 0)) = m.st.any (fun c => decide (c.col = 0)) := by
    show (m.st.map (Ctx.right d)).any _ = _
    rw [List.any_map]
    congr 1
    funext c
    show decide ((c.right d).col = 0) = decide (c.col = 0)
    by_cases h : c.col = 0
    · rw [decide_eq_true h, decide_eq_true ((zero_right hd c).2 h)]
    · rw [decide_eq_false h, decide_eq_false (fun hh => h ((zero_right hd c).1 hh))]
  have e4 : letsP (m.right d).st = letsP m.st := letsP_right hd m.st
  rw [e3, e4, inL_right]
  dsimp only
  rw [len_right, pop_right]
  split
  · split <;> rfl
  · split
    · split <;> rfl
    · split
      · split <;> rfl
      · rfl
theorem enclL_right (t : Tok) (ht : 1 ≤ t.col) : ∀ s : List Ctx, enclL (s.map (Ctx.right d)) < (t.right d).col ↔ enclL s < t.col
  | [] => by
    have e : (t.right d).col = t.col + d := rfl
    rw [e]
    show 0 < t.col + d ↔ 0 < t.col
    omega
  | c :: s => by
    rw [List.map_cons, enclL, enclL]
    by_cases h : 0 < c.col
    · rw [if_pos h, if_pos ((pos_right hd c).2 h)]
      have e : (t.right d).col = t.col + d := rfl
      have e2 : (c.right d).col = c.col + d := by unfold Ctx.right; rw [if_pos h]
      rw [e, e2]; omega
    · rw [if_neg h, if_neg (fun hh => h ((pos_right hd c).1 hh))]
      exact enclL_right t ht s
theorem blockP_right (p : Option Tok) (t : Tok) (ht : 1 ≤ t.col) (m : Mk) : blockP (p.map (Tok.right d)) (t.right d) (m.right d) = ((blockP p t m).1.right d, (blockP p t m).2) := by
  cases p with
  | none => rfl
  | some q =>
    have h1 : opensP (q.right d) = opensP q := rfl
    have h2 : isP (t.right d) 5 sOpB = isP t 5 sOpB := rfl
    have h3 : decide ((q.right d).line < (t.right d).line) = decide (q.line < t.line) := rfl
    have h4 : (t.right d).kind = t.kind := rfl
    have h5 : enclP (m.right d).st < (t.right d).col ↔ enclP m.st < t.col := by
      show enclL (m.st.map (Ctx.right d)).reverse < _ ↔ _
      rw [← List.map_reverse]
      exact enclL_right hd t ht _
    unfold blockP
    dsimp only [Option.map_some]
    rw [h1, h2, h3, h4]
    split
    · rfl
    · split
      · rfl
      · by_cases h : t.kind ≠ 9 ∧ enclP m.st < t.col
        · rw [if_pos h, if_pos ⟨h.1, h5.2 h.2⟩, put_right]
          have hc : (⟨(t.right d).col, (q.right d).text⟩ : Ctx) = (⟨t.col, q.text⟩ : Ctx).right d := by
            unfold Ctx.right
            rw [if_pos (by show 0 < t.col; omega)]
            rfl
          rw [hc, push_right]
        · rw [if_neg h, if_neg (fun hh => h ⟨hh.1, h5.1 hh.2⟩), put_right, put_right]
theorem stepP_right (p : Option Tok) (t : Tok) (ht : 1 ≤ t.col) (m : Mk) : stepP (p.map (Tok.right d)) (t.right d) (m.right d) = (stepP p t m).right d := by
  have e1 : ∀ k s, isP (t.right d) k s = isP t k s := fun _ _ => rfl
  have h4 : (t.right d).kind = t.kind := rfl
  unfold stepP
  dsimp only
  rw [blockP_right hd p t ht, h4, e1, e1]
  dsimp only
  split
  · rfl
  · have h2 : (if (blockP p t m).2 = true then lineP (t.right d) ((blockP p t m).1.right d) else (blockP p t m).1.right d) = (if (blockP p t m).2 = true then lineP t (blockP p t m).1 else (blockP p t m).1).right d := by
      split
      · exact lineP_right hd t ht _
      · rfl
    rw [h2, beforeP_right hd]
    obtain ⟨mf, hmf⟩ : ∃ mf, beforeP t (if (blockP p t m).2 = true then lineP t (blockP p t m).1 else (blockP p t m).1) = mf := ⟨_, rfl⟩
    rw [hmf]
    have h3 : (⟨(mf.right d).st, (mf.right d).out ++ [t.right d]⟩ : Mk) = (⟨mf.st, mf.out ++ [t]⟩ : Mk).right d := by
      unfold Mk.right
      simp
    rw [h3]
    split
    · have := push_right (d := d) ⟨mf.st, mf.out ++ [t]⟩ zCtx
      rw [zCtx_right] at this
      exact this
    · rfl
theorem goM_right : ∀ (l : List Tok) (p : Option Tok) (m : Mk), (∀ t ∈ l, 1 ≤ t.col) → goM (p.map (Tok.right d)) (l.map (Tok.right d)) (m.right d) = (goM p l m).right d
  | [], _, _, _ => rfl
  | t :: l, p, m, h => by
    rw [List.map_cons, goM, goM, stepP_right hd p t (h t List.mem_cons_self)]
    exact goM_right l (some t) _ (fun x hx => h x (List.mem_cons_of_mem _ hx))
theorem endL_right (t : Tok) : ∀ (n : Nat) (m : Mk), endL (t.right d) n (m.right d) = (endL t n m).right d
  | 0, _ => rfl
  | n + 1, m => by
    rw [endL, endL]
    have e : topP (m.right d).st = (topP m.st).right d := topP_right m.st
    rw [e]
    by_cases h : 0 < (topP m.st).col
    · rw [if_pos h, if_pos ((pos_right hd _).2 h), close_right, endL_right t n]
    · rw [if_neg h, if_neg (fun hh => h ((pos_right hd _).1 hh)), pop_right, endL_right t n]
/-- Moved tokens are marked as the tokens are, moved. -/
theorem markP_right (l : List Tok) (e : Tok) (h : ∀ t ∈ l, 1 ≤ t.col) : markP (l.map (Tok.right d)) (e.right d) = (markP l e).map (Tok.right d) := by
  unfold markP
  dsimp only
  have h1 := goM_right hd l none ⟨[], []⟩ h
  have h2 : (Mk.right d ⟨[], []⟩) = ⟨[], []⟩ := rfl
  rw [h2] at h1
  have h3 : goM none (l.map (Tok.right d)) ⟨[], []⟩ = (goM none l ⟨[], []⟩).right d := h1
  rw [h3, len_right, endL_right hd]
  show (endL e _ _).out.map (Tok.right d) ++ [e.right d] = _
  rw [List.map_append]; rfl
end
end Go.Proofs.YtnpgdeioaehahaaDoor
