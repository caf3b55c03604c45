/- The plain module: it never runs out; its nodes are a tree, its errors lie at tokens. -/
import Derived.Test.YtcjoapmodaioiaaGreatDoorMPl
import Derived.Test.YtcjoapmodaioiaaGreatDoorPaY
set_option linter.unusedVariables false
set_option linter.unusedSimpArgs false
namespace Go.Proofs.YtcjoapmodaioiaaGreatDoor
open Go.RowKit Go.Shelf Pa

section
variable {L : List Bt} (hL : Lk L)
include hL
theorem recovered_ok (opn : Int) : ∀ (n : Nat) (s : Ps), s.pos < L.length → L.length - s.pos + 1 ≤ n → ∃ s', recovered L n opn s = .ok () s' ∧ s.pos ≤ s'.pos ∧ s'.pos < L.length ∧ s'.nodes = s.nodes ∧ s'.deep = s.deep ∧ s'.bad = s.bad
  | 0, _, _, hn => absurd hn (by omega)
  | n + 1, s, h, hn => by
    rw [recovered_eq]
    have e : loop (recF L opn) (n + 1) () s = (match recF L opn () s with | .ok (.inl a) s' => loop (recF L opn) n a s' | .ok (.inr b) s' => .ok b s' | .no s' => .no s' | .out => .out) := by
      show Pm.bind _ _ _ = _
      unfold Pm.bind
      cases recF L opn () s with
      | ok r s' => cases r <;> rfl
      | no s' => rfl
      | out => rfl
    rw [e]
    by_cases h9 : (tokAt L s.pos).kind = 9
    · have e2 : recF L opn () s = .ok (.inr ()) s := by unfold recF; dsimp only; rw [if_pos (by simpa using h9)]
      rw [e2]
      exact ⟨s, rfl, Nat.le_refl _, h, rfl, rfl, rfl⟩
    · by_cases hc : s.opn ≤ opn ∧ (opens (tokAt L s.pos) < 0 ∨ (tokAt L s.pos).kind = 8 ∨ isB (tokAt L s.pos) 5 ⟨#[59]⟩ = true)
      · have e2 : recF L opn () s = .ok (.inr ()) s := by unfold recF; dsimp only; rw [if_neg (by simpa using h9), if_pos hc]
        rw [e2]
        exact ⟨s, rfl, Nat.le_refl _, h, rfl, rfl, rfl⟩
      · have e2 : recF L opn () s = .ok (.inl ()) { s with pos := s.pos + 1, opn := s.opn + opens (tokAt L s.pos) } := by
          unfold recF; dsimp only; rw [if_neg (by simpa using h9), if_neg hc]
          show Pm.bind (next L) _ s = _
          unfold Pm.bind Pa.next
          rw [if_neg (by simpa using h9)]
          rfl
        rw [e2]
        have hne : ¬ s.pos + 1 = L.length := fun e => h9 ((hL.last _ h).2 e)
        obtain ⟨s', h1, h2, h3, h4, h5, h6⟩ := recovered_ok opn n { s with pos := s.pos + 1, opn := s.opn + opens (tokAt L s.pos) } (by show s.pos + 1 < _; omega) (by show _ - (s.pos + 1) + 1 ≤ _; omega)
        rw [recovered_eq] at h1
        exact ⟨s', h1, by simp only at h2; omega, h3, h4, h5, h6⟩
theorem decl_mono {T : Prop} {n : Nat} {s : Ps} {d : Int} {p : Nat} {f : Nat → Int} (h : St T L d p s.nodes f s) (h0 : 0 ≤ d) (h1 : d ≤ 100) (hn : (L.length : Int) + 2 + 12 * (101 - d) + 8 ≤ n) : ∀ s', decl L n s = .no s' → s.nodes <+: s'.nodes := fun s' e => by
  have h2 := sp_decl hL T 0 s.nodes d p f s h (Nat.zero_le _) h0 h1 hn
  unfold Wp at h2
  rw [e] at h2
  exact h2.pre
theorem decl_len {n : Nat} (hn : (L.length : Int) + 2 + 12 * 101 + 8 ≤ n) (s s' : Ps) (hp : s.pos < L.length) (h0 : 0 ≤ s.deep) (h1 : s.deep ≤ 100) (e : decl L n s = .no s') : s.nodes.length ≤ s'.nodes.length :=
  (decl_mono hL (T := False) (f := fun _ => 0) ⟨rfl, Nat.le_refl _, hp, List.prefix_refl _, ⟨fun h => h.elim, fun h => h.elim, fun _ => Int.le_refl _⟩, fun h => h.elim⟩ h0 h1 (by omega) s' e).length_le
section
variable {α β γ : Type} {T : Prop} {q : Nat} {b : List Nd} {s : Ps} {Q' : β → Ps → Prop} {d : Int} {p : Nat} {f : Nat → Int}
theorem r_rec {n : Nat} {o : Int} {g : Unit → Pm β} (h : St T L d p b f s) (hn : L.length + 1 ≤ n) (hg : ∀ s', St T L d p b f s' → Wp T L q b (g ()) s' Q') : Wp T L q b (recovered L n o >>= g) s Q' := by
  obtain ⟨s', h1, h2, h3, h4, h5, h6⟩ := recovered_ok hL o n s h.hi (by omega)
  refine Wp.bind ?_
  unfold Wp
  rw [h1]
  exact hg s' ⟨h5.trans h.deep, Nat.le_trans h.lo h2, h3, by rw [h4]; exact h.pre, by rw [h4]; exact h.tr, by rw [h6]; exact h.bad⟩
theorem r_guarded {n : Nat} {g : Option Nat → Pm β} (h : St T L 0 p b f s) (hq : q ≤ p) (hn : (L.length : Int) + 2 + 12 * 101 + 8 ≤ n) (hy : ∀ i s', St T L 0 (p + 1) b (fun a => f a + kct [i] a) s' → Wp T L q b (g (some i)) s' Q') (hz : ∀ s', St T L 0 p b f s' → Wp T L q b (g none) s' Q') : Wp T L q b (guarded L n >>= g) s Q' := by
  have h2 := sp_decl hL (n := n) T p s.nodes 0 p f s ⟨h.deep, h.lo, h.hi, List.prefix_refl _, h.tr, h.bad⟩ (Nat.le_refl p) (by omega) (by omega) (by omega)
  refine Wp.bind ?_
  unfold Wp at h2 ⊢
  cases hd : decl L n s with
  | ok i s' =>
    rw [hd] at h2
    rw [guarded_yes hd]
    exact hy i s' ⟨h2.deep, h2.lo, h2.hi, h.pre.trans h2.pre, h2.tr, h2.bad⟩
  | no s' =>
    rw [hd] at h2
    rw [guarded_no hd]
    have ht : s'.nodes.take s.nodes.length = s.nodes := by
      obtain ⟨t, ht⟩ := h2.pre
      rw [← ht]; simp
    obtain ⟨s5, e1, e2, e3, e4, e5, e6⟩ := recovered_ok hL s.opn n { s' with nodes := s'.nodes.take s.nodes.length, deep := 0 } h2.hi (by have := h2.hi; show L.length - s'.pos + 1 ≤ n; omega)
    rw [e1]
    rw [ht] at e4
    exact hz s5 ⟨e5, Nat.le_trans h2.lo e2, e3, by rw [e4]; exact h.pre, by rw [e4]; exact h.tr, by rw [e6]; exact h2.bad⟩
  | out => rw [hd] at h2; exact h2.elim
omit hL in
theorem r_getS {g : Ps → Pm β} (h : Wp T L q b (g s) s Q') : Wp T L q b (getS >>= g) s Q' := h
omit hL in
theorem r_worse {g : Unit → Pm β} (h : St T L d p b f s) (hg : ∀ s', St T L d p b f s' → Wp T L q b (g ()) s' Q') : Wp T L q b (worse5 >>= g) s Q' :=
  hg _ ⟨h.deep, h.lo, h.hi, h.pre, h.tr, fun ht x hx => by
    rcases List.mem_append.1 hx with hx | hx
    · exact h.bad ht x hx
    · have := List.mem_singleton.1 hx; subst this; exact ⟨by show (5 : Int) ≠ 0; decide, h.hi⟩⟩
omit hL in
theorem r_putE {x : Nd} {g : Nat → Pm β} (h : St T L d p b f s) (hq : q ≤ p) (hk : ∀ a, kct x.kids a ≤ f a) (hg : ∀ s', s'.nodes = s.nodes ++ [x] → St T L d p b (fun a => f a - kct x.kids a + one (s'.nodes.length - 1) a) s' → Wp T L q b (g (s'.nodes.length - 1)) s' Q') : Wp T L q b (put x >>= g) s Q' := by
  refine Wp.bind ?_
  unfold Wp Pa.put
  by_cases hl : 4096 ≤ s.nodes.length
  · rw [if_pos hl]; exact h.no hq (by decide)
  · rw [if_neg hl]
    have e : ({ s with nodes := s.nodes ++ [x] } : Ps).nodes.length - 1 = s.nodes.length := by simp
    have h5 := hg { s with nodes := s.nodes ++ [x] } rfl (by rw [e]; exact ⟨h.deep, h.lo, h.hi, h.pre.trans (List.prefix_append _ _), h.tr.put x hk, h.bad⟩)
    rw [e] at h5
    exact h5
end
def ModR (T : Prop) (L : List Bt) (g : Nat → Int) (s : Ps) : Prop := ∃ x r, s.nodes = r ++ [x] ∧ x.kind = 0 ∧ St T L 0 0 [] (fun a => g a + one (s.nodes.length - 1) a) s
theorem w_modF {T : Prop} {n : Nat} {name : ByteArray} {ex : Bool} (hn : (L.length : Int) + 2 + 12 * 101 + 8 ≤ n) (kids : List Nat) (s : Ps) (p : Nat) (f : Nat → Int) (hs : St T L 0 p [] f s) (hcc : ∀ x, kct kids x ≤ f x) :
    Wp T L 0 [] (modF L n name ex kids) s (fun r s' => match r with | .inl k => St T L 0 (s.pos + 1) [] (fun x => f x - kct kids x + kct k x) s' | .inr _ => ModR T L (fun x => f x - kct kids x) s') := by
  have hq : 0 ≤ p := Nat.zero_le _
  have hend : ∀ (s5 : Ps) (p5 : Nat), St T L 0 p5 [] f s5 → Wp T L 0 [] (modEnd L name kids) s5 (fun r s' => match r with | .inl k => St T L 0 (s.pos + 1) [] (fun x => f x - kct kids x + kct k x) s' | .inr _ => ModR T L (fun x => f x - kct kids x) s') := fun s5 p5 h5 => by
    unfold modEnd
    refine r_kind9 hL h5 (Nat.zero_le _) (fun t s6 h6 => ?_)
    refine r_putE h6 (Nat.zero_le _) hcc (fun s7 e7 h7 => ?_)
    exact r_pure ⟨_, _, e7, rfl, h7.conv (Nat.zero_le _) (fun _ => rfl)⟩
  have hs0 : St T L 0 s.pos [] f s := ⟨hs.deep, Nat.le_refl _, hs.hi, hs.pre, hs.tr, hs.bad⟩
  unfold modF
  refine r_tok (r_ite (fun hc1 => r_ite (fun _ => r_next0 hL hs0 (fun s5 h5 => hend s5 _ h5)) (fun _ => hend s _ hs0)) (fun hc1 => ?_))
  have h9 : (tokAt L s.pos).kind ≠ 9 := fun e => hc1 (by simp [e])
  refine r_ite (fun hc2 => ?_) (fun hc2 => ?_)
  · exact r_next1 hL hs0 h9 (fun s5 h5 => r_pure (h5.conv (Nat.le_refl _) (fun x => by simp only [kct]; omega)))
  refine r_getS (r_guarded hL hs0 (Nat.zero_le _) hn (fun i s5 h5 => ?_) (fun s5 h5 => ?_))
  · refine r_tok (r_ite (fun hc3 => ?_) (fun hc3 => ?_))
    · refine r_worse h5 (fun s6 h6 => r_rec hL h6 (by omega) (fun s7 h7 => r_pure (h7.conv (Nat.le_refl _) (fun x => by rw [kct_app]; omega))))
    · exact r_pure (h5.conv (Nat.le_refl _) (fun x => by rw [kct_app]; omega))
  · refine r_getS (r_tok (r_ite (fun hc3 => ?_) (fun hc3 => ?_)))
    · have h9' : (tokAt L s5.pos).kind ≠ 9 := fun e => by
        simp only [Bool.or_eq_true, Bool.and_eq_true, beq_iff_eq] at hc3
        rcases hc3 with hc3 | hc3
        · rw [hc3] at e; exact h9 e
        · omega
      exact r_next1 hL h5 h9' (fun s6 h6 => r_pure (h6.conv (Nat.le_refl _) (fun x => by omega)))
    · have hne : ¬ s5.pos = s.pos := fun e => hc3 (by simp [e])
      have hlo := h5.lo
      exact r_pure (⟨h5.deep, by omega, h5.hi, h5.pre, h5.tr.eq (fun x => by omega), h5.bad⟩)
theorem w_modL {T : Prop} {n : Nat} {name : ByteArray} {ex : Bool} (hn : (L.length : Int) + 2 + 12 * 101 + 8 ≤ n) : ∀ (m : Nat) (kids : List Nat) (s : Ps) (p : Nat) (f : Nat → Int), L.length - s.pos + 1 ≤ m → St T L 0 p [] f s → (∀ x, kct kids x ≤ f x) → Wp T L 0 [] (loop (modF L n name ex) m kids) s (fun _ s' => ModR T L (fun x => f x - kct kids x) s')
  | 0, _, _, _, _, hm, _, _ => absurd hm (by omega)
  | m + 1, kids, s, p, f, hm, hs, hcc => by
    show Wp T L 0 [] (Pm.bind (modF L n name ex kids) _) s _
    refine Wp.bind ((w_modF hL hn kids s p f hs hcc).mono fun r s' hr => ?_)
    cases r with
    | inl k =>
      have h1 := hr.lo
      have h2 := hs.hi
      refine (w_modL hn m k s' _ _ (by omega) hr (fun x => by have := hcc x; show kct k x ≤ f x - kct kids x + kct k x; omega)).mono fun _ s5 h5 => ?_
      have e : (fun x => f x - kct kids x + kct k x - kct k x) = fun x => f x - kct kids x := funext fun x => by omega
      rwa [e] at h5
    | inr _ => exact hr
def s00 : Ps := ⟨0, 0, 0, [], []⟩
omit hL in
theorem st00 {T : Prop} (h0 : 0 < L.length) : St T L 0 0 [] (fun _ => 0) s00 := ⟨rfl, Nat.le_refl _, h0, List.prefix_refl _, ⟨fun _ a => by simp [s00, kct], fun _ i x h => by simp [s00] at h, fun _ => Int.le_refl _⟩, fun _ x h => by simp [s00] at h⟩
theorem module_ok {T : Prop} {n : Nat} (hn : (L.length : Int) + 2 + 12 * 101 + 8 ≤ n) : Wp T L 0 [] (module L n) s00 (fun _ s' => ModR T L (fun _ => 0) s') := by
  have hs := st00 (T := T) hL.pos
  have hq : 0 ≤ 0 := Nat.le_refl _
  rw [module_eq]
  refine r_want hL hs hq (by omega) (fun t s1 h1 => ?_)
  refine r_kind hL h1 (Nat.zero_le _) (by omega) (fun t2 s2 h2 => ?_)
  refine r_want hL h2 (Nat.zero_le _) (by omega) (fun t s3 h3 => ?_)
  refine r_is (r_ite (fun hc => ?_) (fun hc => ?_))
  · refine r_next0 hL h3 (fun s4 h4 => ?_)
    exact (w_modL hL hn n [] s4 _ _ (by have := h4.hi; omega) h4 (fun x => by simp [kct])).mono fun _ s5 h5 => by simpa [kct] using h5
  · refine r_kind hL h3 (Nat.zero_le _) (by omega) (fun t4 s4 h4 => ?_)
    exact (w_modL hL hn n [] s4 _ _ (by have := h4.hi; omega) h4 (fun x => by simp [kct])).mono fun _ s5 h5 => by simpa [kct] using h5
end
end Go.Proofs.YtcjoapmodaioiaaGreatDoor
