/- The parser: PlA, PlB. -/
import Derived.Test.YtcjoapmodaioiaaGreatDoorMPaC
section
set_option linter.unusedVariables false
namespace Go.Proofs.YtcjoapmodaioiaaGreatDoor
open Go.RowKit Go.Shelf Pa

def kct (l : List Nat) (a : Nat) : Int := (l.count a : Int)
def one (x a : Nat) : Int := ((if a = x then 1 else 0 : Nat) : Int)
theorem kct_nil (a : Nat) : kct [] a = 0 := rfl
theorem kct_cons (x : Nat) (l : List Nat) (a : Nat) : kct (x :: l) a = one x a + kct l a := by
  unfold kct one
  rw [List.count_cons]
  by_cases h : a = x
  · subst h; simp; omega
  · have h2 : ¬ x = a := fun e => h e.symm
    simp [h, h2]
theorem kct_app (l m : List Nat) (a : Nat) : kct (l ++ m) a = kct l a + kct m a := by unfold kct; rw [List.count_append]; simp
theorem kct_nn (l : List Nat) (a : Nat) : 0 ≤ kct l a := by unfold kct; omega
theorem one_nn (x a : Nat) : 0 ≤ one x a := by unfold one; omega
theorem kct_mem {l : List Nat} {a : Nat} (h : a ∈ l) : 1 ≤ kct l a := by
  have := List.count_pos_iff.2 h
  unfold kct; omega
structure Tr (T : Prop) (ns : List Nd) (f : Nat → Int) : Prop where
  cov : T → ∀ a, kct (ns.flatMap Nd.kids) a + f a = if a < ns.length then 1 else 0
  ord : T → ∀ (i : Nat) (x : Nd), ns[i]? = some x → ∀ k ∈ x.kids, k < i
  nn : ∀ a, 0 ≤ f a
theorem Tr.put {T : Prop} {ns : List Nd} {f : Nat → Int} (h : Tr T ns f) (x : Nd) (hk : ∀ a, kct x.kids a ≤ f a) : Tr T (ns ++ [x]) (fun a => f a - kct x.kids a + one ns.length a) := by
  refine ⟨fun ht a => ?_, fun ht i y hy k hk2 => ?_, fun a => ?_⟩
  · rw [List.flatMap_append, kct_app, List.length_append]
    have h1 := h.cov ht a
    simp only [List.flatMap_cons, List.flatMap_nil, List.append_nil, List.length_cons, List.length_nil]
    have h2 := kct_nn (ns.flatMap Nd.kids) a
    have h3 := h.nn a
    have h4 := hk a
    have h5 := kct_nn x.kids a
    unfold one
    by_cases ha : a < ns.length
    · rw [if_pos ha] at h1
      rw [if_neg (by omega), if_pos (by omega)]; omega
    · rw [if_neg ha] at h1
      by_cases hb : a = ns.length
      · rw [if_pos hb, if_pos (by omega)]; omega
      · rw [if_neg hb, if_neg (by omega)]; omega
  · by_cases hi : i < ns.length
    · rw [List.getElem?_append_left hi] at hy
      exact h.ord ht i y hy k hk2
    · rw [List.getElem?_append_right (by omega)] at hy
      have h0 : i - ns.length = 0 := by
        apply Classical.byContradiction; intro hne
        rw [List.getElem?_eq_none (by simp; omega)] at hy; cases hy
      rw [h0] at hy
      simp at hy; subst hy
      have h1 := h.cov ht k
      have h2 := hk k
      have h3 := kct_mem hk2
      have h4 := kct_nn (ns.flatMap Nd.kids) k
      by_cases hkl : k < ns.length
      · omega
      · rw [if_neg hkl] at h1; omega
  · have h1 := hk a
    have h2 := one_nn ns.length a
    show 0 ≤ f a - kct x.kids a + one ns.length a
    omega
theorem Tr.eq {T : Prop} {ns : List Nd} {f g : Nat → Int} (h : Tr T ns f) (e : ∀ a, f a = g a) : Tr T ns g := (funext e : f = g) ▸ h
structure Lk (L : List Bt) : Prop where
  pos : 0 < L.length
  last : ∀ i, i < L.length → ((tokAt L i).kind = 9 ↔ i + 1 = L.length)
def BadOk (L : List Bt) (l : List (Int × Nat)) : Prop := ∀ x ∈ l, x.1 ≠ 0 ∧ x.2 < L.length
structure St (T : Prop) (L : List Bt) (d : Int) (p : Nat) (b : List Nd) (f : Nat → Int) (s : Ps) : Prop where
  deep : s.deep = d
  lo : p ≤ s.pos
  hi : s.pos < L.length
  pre : b <+: s.nodes
  tr : Tr T s.nodes f
  bad : T → BadOk L s.bad
structure Nt (T : Prop) (L : List Bt) (p : Nat) (b : List Nd) (s : Ps) : Prop where
  lo : p ≤ s.pos
  hi : s.pos < L.length
  pre : b <+: s.nodes
  bad : T → BadOk L s.bad
  some : s.bad ≠ []
def Wp {α : Type} (T : Prop) (L : List Bt) (q : Nat) (b : List Nd) (m : Pm α) (s : Ps) (Q : α → Ps → Prop) : Prop := match m s with
  | .ok a s' => Q a s'
  | .no s' => Nt T L q b s'
  | .out => False
section
variable {α β γ : Type} {T : Prop} {L : List Bt} {q : Nat} {b : List Nd} {s : Ps} {Q : α → Ps → Prop} {Q' : β → Ps → Prop} {d : Int} {p : Nat} {f : Nat → Int}
theorem Wp.mono {R : α → Ps → Prop} {m : Pm α} (h : Wp T L q b m s Q) (hQ : ∀ a s', Q a s' → R a s') : Wp T L q b m s R := by
  unfold Wp at *
  cases hm : m s with
  | ok a s' => rw [hm] at h; exact hQ a s' h
  | no s' => rw [hm] at h; exact h
  | out => rw [hm] at h; exact h
theorem Wp.bind {m : Pm α} {g : α → Pm β} (h : Wp T L q b m s (fun a s' => Wp T L q b (g a) s' Q')) : Wp T L q b (m >>= g) s Q' := by
  unfold Wp at *
  show (match (Pm.bind m g) s with | .ok a s' => Q' a s' | .no s' => Nt T L q b s' | .out => False)
  unfold Pm.bind
  cases hm : m s with
  | ok a s' => rw [hm] at h; exact h
  | no s' => rw [hm] at h; exact h
  | out => rw [hm] at h; exact h
theorem r_pure {a : α} (h : Q a s) : Wp T L q b (pure a) s Q := h
theorem f_assoc (m : Pm α) (g : α → Pm β) (h : β → Pm γ) : ((m >>= g) >>= h) = (m >>= fun a => g a >>= h) := funext fun s => m_assoc h
theorem f_pure (a : α) (g : α → Pm β) : ((pure a : Pm α) >>= g) = g a := rfl
theorem f_ite (c : Prop) {_ : Decidable c} (x y : Pm α) (g : α → Pm β) : ((if c then x else y) >>= g) = if c then x >>= g else y >>= g := by split <;> rfl
theorem r_ite {c : Prop} {_ : Decidable c} {x y : Pm α} (h1 : c → Wp T L q b x s Q) (h2 : ¬ c → Wp T L q b y s Q) : Wp T L q b (if c then x else y) s Q := by
  split
  · exact h1 ‹_›
  · exact h2 ‹_›
theorem r_tail {m : Pm α} (h : Wp T L q b (m >>= pure) s Q) : Wp T L q b m s Q := by
  have e : (m >>= pure) = m := funext fun s => m_tail m
  rwa [e] at h
theorem r_tok {g : Bt → Pm β} (h : Wp T L q b (g (tokAt L s.pos)) s Q') : Wp T L q b (tok L >>= g) s Q' := h
theorem r_is {k : Int} {x : ByteArray} {g : Bool → Pm β} (h : Wp T L q b (g (isB (tokAt L s.pos) k x)) s Q') : Wp T L q b (is L k x >>= g) s Q' := h
theorem r_key {x : ByteArray} {g : Bool → Pm β} (h : Wp T L q b (g (isB (tokAt L s.pos) 4 x)) s Q') : Wp T L q b (key L x >>= g) s Q' := h
theorem r_bty {g : Bool → Pm β} (h : Wp T L q b (g (beginsType (tokAt L s.pos))) s Q') : Wp T L q b (beginsT L >>= g) s Q' := h
theorem r_fun {φ : Ps → α} {g : α → Pm β} (h : Wp T L q b (g (φ s)) s Q') : Wp T L q b ((fun s => .ok (φ s) s : Pm α) >>= g) s Q' := h
theorem St.conv {p' : Nat} {f' : Nat → Int} (h : St T L d p b f s) (hp : p' ≤ p) (e : ∀ a, f a = f' a) : St T L d p' b f' s := ⟨h.deep, Nat.le_trans hp h.lo, h.hi, h.pre, h.tr.eq e, h.bad⟩
theorem St.no (h : St T L d p b f s) (hq : q ≤ p) {e : Int} (he : e ≠ 0) : Nt T L q b { s with bad := s.bad ++ [(e, s.pos)] } :=
  ⟨Nat.le_trans hq h.lo, h.hi, h.pre, fun ht x hx => by
    rcases List.mem_append.1 hx with hx | hx
    · exact h.bad ht x hx
    · have := List.mem_singleton.1 hx; subst this; exact ⟨he, h.hi⟩, by simp⟩
theorem r_fail {e : Int} (h : St T L d p b f s) (hq : q ≤ p) (he : e ≠ 0) : Wp T L q b (fail e : Pm α) s Q := h.no hq he
theorem r_failb {e : Int} {g : α → Pm β} (h : St T L d p b f s) (hq : q ≤ p) (he : e ≠ 0) : Wp T L q b ((fail e : Pm α) >>= g) s Q' := h.no hq he
theorem r_next1 (hL : Lk L) {g : Bt → Pm β} (h : St T L d p b f s) (h9 : (tokAt L s.pos).kind ≠ 9) (hg : ∀ s', St T L d (p + 1) b f s' → Wp T L q b (g (tokAt L s.pos)) s' Q') : Wp T L q b (next L >>= g) s Q' := by
  refine Wp.bind ?_
  unfold Wp Pa.next
  rw [if_neg (by simpa using h9)]
  have hi := h.hi
  have hne : ¬ s.pos + 1 = L.length := fun e => h9 ((hL.last _ hi).2 e)
  exact hg _ ⟨h.deep, Nat.succ_le_succ h.lo, by show s.pos + 1 < L.length; omega, h.pre, h.tr, h.bad⟩
theorem r_next0 (hL : Lk L) {g : Bt → Pm β} (h : St T L d p b f s) (hg : ∀ s', St T L d p b f s' → Wp T L q b (g (tokAt L s.pos)) s' Q') : Wp T L q b (next L >>= g) s Q' := by
  by_cases h9 : (tokAt L s.pos).kind = 9
  · refine Wp.bind ?_
    unfold Wp Pa.next
    rw [if_pos (by simpa using h9)]
    exact hg _ h
  · exact r_next1 hL h h9 (fun s' h' => hg s' (h'.conv (Nat.le_succ _) (fun _ => rfl)))
theorem r_kind (hL : Lk L) {c : Int} {g : Bt → Pm β} (h : St T L d p b f s) (hq : q ≤ p) (hc : c ≠ 9) (hg : ∀ t s', St T L d (p + 1) b f s' → Wp T L q b (g t) s' Q') : Wp T L q b (kind L c >>= g) s Q' := by
  unfold kind
  rw [f_assoc, show (tok L >>= fun a => (if (a.kind != c) = true then fail 5 >>= fun _ => next L else next L) >>= g) = (tok L >>= fun a => (if (a.kind != c) = true then (fail 5 >>= fun _ => next L) >>= g else next L >>= g)) from by congr 1; funext a; exact f_ite _ _ _ _]
  refine r_tok (r_ite (fun hc1 => ?_) (fun hc1 => ?_))
  · rw [f_assoc]; exact r_failb (α := PUnit) h hq (by decide)
  · have e : (tokAt L s.pos).kind = c := by simpa using hc1
    exact r_next1 hL h (by omega) (fun s' h' => hg _ s' h')
theorem r_kind9 (hL : Lk L) {g : Bt → Pm β} (h : St T L d p b f s) (hq : q ≤ p) (hg : ∀ t s', St T L d p b f s' → Wp T L q b (g t) s' Q') : Wp T L q b (kind L 9 >>= g) s Q' := by
  unfold kind
  rw [f_assoc, show (tok L >>= fun a => (if (a.kind != 9) = true then fail 5 >>= fun _ => next L else next L) >>= g) = (tok L >>= fun a => (if (a.kind != 9) = true then (fail 5 >>= fun _ => next L) >>= g else next L >>= g)) from by congr 1; funext a; exact f_ite _ _ _ _]
  refine r_tok (r_ite (fun hc1 => ?_) (fun hc1 => ?_))
  · rw [f_assoc]; exact r_failb (α := PUnit) h hq (by decide)
  · exact r_next0 hL h (fun s' h' => hg _ s' h')
theorem r_want (hL : Lk L) {c : Int} {x : ByteArray} {g : Bt → Pm β} (h : St T L d p b f s) (hq : q ≤ p) (hc : c ≠ 9) (hg : ∀ t s', St T L d (p + 1) b f s' → Wp T L q b (g t) s' Q') : Wp T L q b (want L c x >>= g) s Q' := by
  unfold want
  rw [f_assoc, show (is L c x >>= fun a => (if (!a) = true then fail 5 >>= fun _ => next L else next L) >>= g) = (is L c x >>= fun a => (if (!a) = true then (fail 5 >>= fun _ => next L) >>= g else next L >>= g)) from by congr 1; funext a; exact f_ite _ _ _ _]
  refine r_is (r_ite (fun hc1 => ?_) (fun hc1 => ?_))
  · rw [f_assoc]; exact r_failb (α := PUnit) h hq (by decide)
  · have e : isB (tokAt L s.pos) c x = true := by simpa using hc1
    unfold isB at e
    have e2 : (tokAt L s.pos).kind = c := by simp at e; exact e.1
    exact r_next1 hL h (by omega) (fun s' h' => hg _ s' h')
theorem r_put {x : Nd} {g : Nat → Pm β} (h : St T L d p b f s) (hq : q ≤ p) (hk : ∀ a, kct x.kids a ≤ f a) (hg : ∀ i s', St T L d p b (fun a => f a - kct x.kids a + one i a) s' → Wp T L q b (g i) s' Q') : Wp T L q b (put x >>= g) s Q' := by
  refine Wp.bind ?_
  unfold Wp Pa.put
  by_cases hl : 4096 ≤ s.nodes.length
  · rw [if_pos hl]; exact h.no hq (by decide)
  · rw [if_neg hl]
    exact hg _ _ ⟨h.deep, h.lo, h.hi, h.pre.trans (List.prefix_append _ _), h.tr.put x hk, h.bad⟩
theorem r_down {g : Unit → Pm β} (h : St T L d p b f s) (hq : q ≤ p) (hg : ∀ s', d + 1 ≤ 100 → St T L (d + 1) p b f s' → Wp T L q b (g ()) s' Q') : Wp T L q b (down >>= g) s Q' := by
  refine Wp.bind ?_
  unfold Wp down
  by_cases hl : 100 < s.deep + 1
  · rw [if_pos hl]
    have h2 := St.no (e := 2) h hq (by decide)
    exact ⟨h2.lo, h2.hi, h2.pre, h2.bad, h2.some⟩
  · rw [if_neg hl]
    have hd := h.deep
    exact hg _ (by omega) ⟨by show s.deep + 1 = d + 1; omega, h.lo, h.hi, h.pre, h.tr, h.bad⟩
theorem r_up {g : Unit → Pm β} (h : St T L (d + 1) p b f s) (hg : ∀ s', St T L d p b f s' → Wp T L q b (g ()) s' Q') : Wp T L q b (up >>= g) s Q' :=
  hg _ ⟨by have hd := h.deep; show s.deep - 1 = d; omega, h.lo, h.hi, h.pre, h.tr, h.bad⟩
def Sp (L : List Bt) (n : Nat) (rk : Int) (m : Pm α) (dp : Nat) (add : α → List Nat) : Prop :=
  ∀ (T : Prop) (q : Nat) (b : List Nd) (d : Int) (p : Nat) (f : Nat → Int) (s : Ps), St T L d p b f s → q ≤ p → 0 ≤ d → d ≤ 100 → (L.length : Int) + 2 + 12 * (101 - d) + rk ≤ n → Wp T L q b m s (fun r s' => St T L d (p + dp) b (fun a => f a + kct (add r) a) s')
theorem r_call {n : Nat} {rk : Int} {m : Pm α} {dp : Nat} {add : α → List Nat} {g : α → Pm β} (M : Sp L n rk m dp add) (h : St T L d p b f s) (hq : q ≤ p) (h0 : 0 ≤ d) (h1 : d ≤ 100) (hn : (L.length : Int) + 2 + 12 * (101 - d) + rk ≤ n)
    (hg : ∀ r s', St T L d (p + dp) b (fun a => f a + kct (add r) a) s' → Wp T L q b (g r) s' Q') : Wp T L q b (m >>= g) s Q' :=
  Wp.bind ((M T q b d p f s h hq h0 h1 hn).mono hg)
def Sp9 (L : List Bt) (n : Nat) (rk : Int) (m : Pm α) (dp : Nat) (add : α → List Nat) : Prop :=
  ∀ (T : Prop) (q : Nat) (b : List Nd) (d : Int) (p : Nat) (f : Nat → Int) (s : Ps), St T L d p b f s → q ≤ p → 0 ≤ d → d ≤ 100 → (L.length : Int) + 2 + 12 * (101 - d) + rk ≤ n → (tokAt L s.pos).kind ≠ 9 → Wp T L q b m s (fun r s' => St T L d (p + dp) b (fun a => f a + kct (add r) a) s')
theorem r_call9 {n : Nat} {rk : Int} {m : Pm α} {dp : Nat} {add : α → List Nat} {g : α → Pm β} (M : Sp9 L n rk m dp add) (h : St T L d p b f s) (hq : q ≤ p) (h0 : 0 ≤ d) (h1 : d ≤ 100) (hn : (L.length : Int) + 2 + 12 * (101 - d) + rk ≤ n) (h9 : (tokAt L s.pos).kind ≠ 9)
    (hg : ∀ r s', St T L d (p + dp) b (fun a => f a + kct (add r) a) s' → Wp T L q b (g r) s' Q') : Wp T L q b (m >>= g) s Q' :=
  Wp.bind ((M T q b d p f s h hq h0 h1 hn h9).mono hg)
theorem w_loop {I : α → Prop} {J : β → Prop} {cur : α → List Nat} {out : β → List Nat} {F : α → Pm (α ⊕ β)}
    (body : ∀ a s p f, I a → St T L d p b f s → q ≤ p → (∀ x, kct (cur a) x ≤ f x) → Wp T L q b (F a) s (fun r s' => match r with | .inl a' => I a' ∧ St T L d (p + 1) b (fun x => f x - kct (cur a) x + kct (cur a') x) s' | .inr r => J r ∧ St T L d p b (fun x => f x - kct (cur a) x + kct (out r) x) s')) :
    ∀ (n : Nat) (a : α) (s : Ps) (p : Nat) (f : Nat → Int), L.length - s.pos + 1 ≤ n → St T L d p b f s → q ≤ p → I a → (∀ x, kct (cur a) x ≤ f x) → Wp T L q b (loop F n a) s (fun r s' => J r ∧ St T L d p b (fun x => f x - kct (cur a) x + kct (out r) x) s')
  | 0, _, _, _, _, hn, _, _, _, _ => absurd hn (by omega)
  | n + 1, a, s, p, f, hn, h, hq, hI, hc => by
    show Wp T L q b (Pm.bind (F a) _) s _
    refine Wp.bind ?_
    have h' : St T L d s.pos b f s := ⟨h.deep, Nat.le_refl _, h.hi, h.pre, h.tr, h.bad⟩
    refine (body a s s.pos f hI h' (Nat.le_trans hq h.lo) hc).mono fun r s' hr => ?_
    cases r with
    | inl a' =>
      obtain ⟨h1, h2⟩ := hr
      have h3 := h2.lo
      have h4 := h.hi
      have hnn : ∀ x, 0 ≤ f x - kct (cur a) x := fun x => by have := hc x; omega
      refine (w_loop body n a' s' s'.pos _ (by omega) ⟨h2.deep, Nat.le_refl _, h2.hi, h2.pre, h2.tr, h2.bad⟩ (by have := h.lo; omega) h1 (fun x => by have := hnn x; show kct (cur a') x ≤ f x - kct (cur a) x + kct (cur a') x; omega)).mono fun r s5 hr => ⟨hr.1, hr.2.conv (by have := h.lo; omega) (fun x => by show f x - kct (cur a) x + kct (cur a') x - kct (cur a') x + kct (out r) x = _; omega)⟩
    | inr r =>
      exact ⟨hr.1, hr.2.conv h.lo (fun _ => rfl)⟩
theorem r_loop (hL : Lk L) (I : α → Prop) (J : β → Prop) (cur : α → List Nat) (out : β → List Nat) {F : α → Pm (α ⊕ β)} {n : Nat} {a : α} {g : β → Pm γ} {Q5 : γ → Ps → Prop} (hn : L.length + 1 ≤ n) (h : St T L d p b f s) (hq : q ≤ p) (hI : I a) (hc : ∀ x, kct (cur a) x ≤ f x)
    (body : ∀ a s p f, I a → St T L d p b f s → q ≤ p → (∀ x, kct (cur a) x ≤ f x) → Wp T L q b (F a) s (fun r s' => match r with | .inl a' => I a' ∧ St T L d (p + 1) b (fun x => f x - kct (cur a) x + kct (cur a') x) s' | .inr r => J r ∧ St T L d p b (fun x => f x - kct (cur a) x + kct (out r) x) s'))
    (fin : ∀ r s', J r → St T L d p b (fun x => f x - kct (cur a) x + kct (out r) x) s' → Wp T L q b (g r) s' Q5) : Wp T L q b (loop F n a >>= g) s Q5 :=
  Wp.bind ((w_loop body n a s p f (by omega) h hq hI hc).mono fun r s' hr => fin r s' hr.1 hr.2)
end
end Go.Proofs.YtcjoapmodaioiaaGreatDoor
end

section
set_option linter.unusedVariables false
set_option linter.unusedSimpArgs false
namespace Go.Proofs.YtcjoapmodaioiaaGreatDoor
open Go.RowKit Go.Shelf Pa

section
variable {L : List Bt} (hL : Lk L)
include hL
set_option maxHeartbeats 16000000 in
theorem spA {n : Nat} : (Sp L n 0 (name L) 1 (fun i => [i])) ∧ (Sp L n 0 (param L) 1 (fun i => [i])) ∧ (Sp L n 0 (tail L) 1 (fun l => l)) ∧ (Sp L n 0 (defined L) 1 (fun _ => [])) ∧ (Sp L n 0 (params L n) 0 (fun l => l)) ∧ (Sp L n 0 (semis L n) 0 (fun _ => [])) := by
  refine ⟨?_, ?_, ?_, ?_, ?_, ?_⟩ <;> (intro T q b d p f s hs hq h0 h1 hn; (have hcc : ∀ x, kct [] x ≤ f x := fun x => hs.tr.nn x); (first | (unfold name) | (unfold param) | (unfold tail) | (unfold defined) | (unfold params) | (unfold semis)); refine r_tail ?_; simp only [f_assoc, f_pure, f_ite]; repeat' (first
    | with_reducible (simp only [f_assoc, f_pure, f_ite])
    | with_reducible (exact r_pure (hs.conv (by omega) (by intro x; (try dsimp only); (first | done | ((try simp only [kct_app, kct_cons, kct_nil]); (first | done | ((try simp only [kct, one]); (first | done | omega))))))))
    | with_reducible (exact r_pure ⟨trivial, hs.conv (by omega) (by intro x; (try dsimp only); (first | done | ((try simp only [kct_app, kct_cons, kct_nil]); (first | done | ((try simp only [kct, one]); (first | done | omega))))))⟩)
    | with_reducible (refine r_ite (fun hc => ?_) (fun hc => ?_))
    | with_reducible (refine r_tok ?_)
    | with_reducible (refine r_is ?_)
    | with_reducible (refine r_key ?_)
    | with_reducible (refine r_bty ?_)
    | with_reducible (refine r_fun ?_)
    | with_reducible (refine r_next1 hL (by assumption) (by (try simp [isB, beginsType, begins] at hc); omega) ?_; intro s hs)
    | with_reducible (refine r_next0 hL (by assumption) ?_; intro s hs)
    | with_reducible (refine r_kind hL (by assumption) (by omega) (by omega) ?_; intro t s hs)
    | with_reducible (refine r_want hL (by assumption) (by omega) (by omega) ?_; intro t s hs)
    | with_reducible (refine r_put (by assumption) (by omega) (by intro x; (try dsimp only); have h1 := hcc x; (try simp only [kct_app, kct_cons, kct_nil] at h1 ⊢); (try simp only [kct, one] at h1 ⊢); omega) ?_; intro i s hs)
    | with_reducible (exact r_fail (by assumption) (by omega) (by omega))
    | with_reducible (exact r_failb (by assumption) (by omega) (by omega))
    | with_reducible (refine r_down (by assumption) (by omega) ?_; intro s hd hs)
    | with_reducible (refine r_up (by assumption) ?_; intro s hs)
    | with_reducible (refine r_loop hL (I := (fun (_ : List Nat) => True)) (J := (fun (_ : List Nat) => True)) (cur := (fun (l : List Nat) => l)) (out := (fun (l : List Nat) => l)) (by omega) (by assumption) (by omega) (trivial) (by intro x; (try dsimp only); have h1 := hcc x; (try simp only [kct_app, kct_cons, kct_nil] at h1 ⊢); (try simp only [kct, one] at h1 ⊢); omega) (fun a s p f hI hs hq hcc => r_tail ?_) (fun r s hJ hs => ?_))
    | with_reducible (refine r_loop hL (I := (fun (_ : Unit) => True)) (J := (fun (_ : Unit) => True)) (cur := (fun (_ : Unit) => ([] : List Nat))) (out := (fun (_ : Unit) => ([] : List Nat))) (by omega) (by assumption) (by omega) (trivial) (by intro x; (try dsimp only); have h1 := hcc x; (try simp only [kct_app, kct_cons, kct_nil] at h1 ⊢); (try simp only [kct, one] at h1 ⊢); omega) (fun a s p f hI hs hq hcc => r_tail ?_) (fun r s hJ hs => ?_))
    ))
theorem sp_name {n : Nat} : Sp L n 0 (name L) 1 (fun i => [i]) := (spA hL (n := n)).1
theorem sp_param {n : Nat} : Sp L n 0 (param L) 1 (fun i => [i]) := (spA hL (n := n)).2.1
theorem sp_tail {n : Nat} : Sp L n 0 (tail L) 1 (fun l => l) := (spA hL (n := n)).2.2.1
theorem sp_defined {n : Nat} : Sp L n 0 (defined L) 1 (fun _ => []) := (spA hL (n := n)).2.2.2.1
theorem sp_params {n : Nat} : Sp L n 0 (params L n) 0 (fun l => l) := (spA hL (n := n)).2.2.2.2.1
theorem sp_semis {n : Nat} : Sp L n 0 (semis L n) 0 (fun _ => []) := (spA hL (n := n)).2.2.2.2.2
set_option maxHeartbeats 16000000 in
theorem spB {n : Nat} : (Sp L n 0 (names L n) 1 (fun l => l)) ∧ (Sp L n 0 (row L n) 0 (fun i => [i])) ∧ (Sp L n 0 (predList L n) 0 (fun l => l)) := by
  refine ⟨?_, ?_, ?_⟩ <;> (intro T q b d p f s hs hq h0 h1 hn; (have hcc : ∀ x, kct [] x ≤ f x := fun x => hs.tr.nn x); (first | (unfold names) | (unfold row) | (unfold predList)); refine r_tail ?_; simp only [f_assoc, f_pure, f_ite]; repeat' (first
    | with_reducible (simp only [f_assoc, f_pure, f_ite])
    | with_reducible (exact r_pure (hs.conv (by omega) (by intro x; (try dsimp only); (first | done | ((try simp only [kct_app, kct_cons, kct_nil]); (first | done | ((try simp only [kct, one]); (first | done | omega))))))))
    | with_reducible (exact r_pure ⟨trivial, hs.conv (by omega) (by intro x; (try dsimp only); (first | done | ((try simp only [kct_app, kct_cons, kct_nil]); (first | done | ((try simp only [kct, one]); (first | done | omega))))))⟩)
    | with_reducible (refine r_ite (fun hc => ?_) (fun hc => ?_))
    | with_reducible (refine r_tok ?_)
    | with_reducible (refine r_is ?_)
    | with_reducible (refine r_key ?_)
    | with_reducible (refine r_bty ?_)
    | with_reducible (refine r_fun ?_)
    | with_reducible (refine r_next1 hL (by assumption) (by (try simp [isB, beginsType, begins] at hc); omega) ?_; intro s hs)
    | with_reducible (refine r_next0 hL (by assumption) ?_; intro s hs)
    | with_reducible (refine r_kind hL (by assumption) (by omega) (by omega) ?_; intro t s hs)
    | with_reducible (refine r_want hL (by assumption) (by omega) (by omega) ?_; intro t s hs)
    | with_reducible (refine r_put (by assumption) (by omega) (by intro x; (try dsimp only); have h1 := hcc x; (try simp only [kct_app, kct_cons, kct_nil] at h1 ⊢); (try simp only [kct, one] at h1 ⊢); omega) ?_; intro i s hs)
    | with_reducible (exact r_fail (by assumption) (by omega) (by omega))
    | with_reducible (exact r_failb (by assumption) (by omega) (by omega))
    | with_reducible (refine r_down (by assumption) (by omega) ?_; intro s hd hs)
    | with_reducible (refine r_up (by assumption) ?_; intro s hs)
    | with_reducible (refine r_call (sp_name hL (n := n)) (by assumption) (by omega) (by omega) (by omega) (by omega) ?_; intro i s hs)
    | with_reducible (refine r_loop hL (I := (fun (_ : List Nat) => True)) (J := (fun (_ : List Nat) => True)) (cur := (fun (l : List Nat) => l)) (out := (fun (l : List Nat) => l)) (by omega) (by assumption) (by omega) (trivial) (by intro x; (try dsimp only); have h1 := hcc x; (try simp only [kct_app, kct_cons, kct_nil] at h1 ⊢); (try simp only [kct, one] at h1 ⊢); omega) (fun a s p f hI hs hq hcc => r_tail ?_) (fun r s hJ hs => ?_))
    | with_reducible (refine r_call (sp_tail hL (n := n)) (by assumption) (by omega) (by omega) (by omega) (by omega) ?_; intro i s hs)
    ))
theorem sp_names {n : Nat} : Sp L n 0 (names L n) 1 (fun l => l) := (spB hL (n := n)).1
theorem sp_row {n : Nat} : Sp L n 0 (row L n) 0 (fun i => [i]) := (spB hL (n := n)).2.1
theorem sp_predList {n : Nat} : Sp L n 0 (predList L n) 0 (fun l => l) := (spB hL (n := n)).2.2
set_option maxHeartbeats 4000000 in
theorem sp_recType {n : Nat} {rk : Int} (hr : 0 ≤ rk) {ty : Pm Nat} (M : Sp L n rk ty 1 (fun i => [i])) : Sp L n rk (recType L n ty) 0 (fun i => [i]) := by
  intro T q b d p f s hs hq h0 h1 hn
  have hcc : ∀ x, kct [] x ≤ f x := fun x => hs.tr.nn x
  unfold recType
  refine r_tail ?_
  simp only [f_assoc, f_pure, f_ite]
  repeat' (first
    | with_reducible (simp only [f_assoc, f_pure, f_ite])
    | with_reducible (exact r_pure (hs.conv (by omega) (by intro x; (try dsimp only); (first | done | ((try simp only [kct_app, kct_cons, kct_nil]); (first | done | ((try simp only [kct, one]); (first | done | omega))))))))
    | with_reducible (exact r_pure ⟨trivial, hs.conv (by omega) (by intro x; (try dsimp only); (first | done | ((try simp only [kct_app, kct_cons, kct_nil]); (first | done | ((try simp only [kct, one]); (first | done | omega))))))⟩)
    | with_reducible (refine r_ite (fun hc => ?_) (fun hc => ?_))
    | with_reducible (refine r_tok ?_)
    | with_reducible (refine r_is ?_)
    | with_reducible (refine r_key ?_)
    | with_reducible (refine r_bty ?_)
    | with_reducible (refine r_fun ?_)
    | with_reducible (refine r_next1 hL (by assumption) (by (try simp [isB, beginsType, begins] at hc); omega) ?_; intro s hs)
    | with_reducible (refine r_next0 hL (by assumption) ?_; intro s hs)
    | with_reducible (refine r_kind hL (by assumption) (by omega) (by omega) ?_; intro t s hs)
    | with_reducible (refine r_want hL (by assumption) (by omega) (by omega) ?_; intro t s hs)
    | with_reducible (refine r_put (by assumption) (by omega) (by intro x; (try dsimp only); have h1 := hcc x; (try simp only [kct_app, kct_cons, kct_nil] at h1 ⊢); (try simp only [kct, one] at h1 ⊢); omega) ?_; intro i s hs)
    | with_reducible (exact r_fail (by assumption) (by omega) (by omega))
    | with_reducible (exact r_failb (by assumption) (by omega) (by omega))
    | with_reducible (refine r_down (by assumption) (by omega) ?_; intro s hd hs)
    | with_reducible (refine r_up (by assumption) ?_; intro s hs)
    | with_reducible (refine r_call M (by assumption) (by omega) (by omega) (by omega) (by omega) ?_; intro i s hs)
    | with_reducible (refine r_call (sp_tail hL (n := n)) (by assumption) (by omega) (by omega) (by omega) (by omega) ?_; intro i s hs)
    | with_reducible (refine r_loop hL (I := (fun (_ : List Nat) => True)) (J := (fun (_ : List Nat) => True)) (cur := (fun (l : List Nat) => l)) (out := (fun (l : List Nat) => l)) (by omega) (by assumption) (by omega) (trivial) (by intro x; (try dsimp only); have h1 := hcc x; (try simp only [kct_app, kct_cons, kct_nil] at h1 ⊢); (try simp only [kct, one] at h1 ⊢); omega) (fun a s p f hI hs hq hcc => r_tail ?_) (fun r s hJ hs => ?_))
    )
set_option maxHeartbeats 4000000 in
theorem sp_block {n : Nat} {rk : Int} (hr : 0 ≤ rk) {item : Pm Nat} (M : Sp L n rk item 1 (fun i => [i])) : Sp L n rk (block L n item) 1 (fun l => l) := by
  intro T q b d p f s hs hq h0 h1 hn
  have hcc : ∀ x, kct [] x ≤ f x := fun x => hs.tr.nn x
  unfold block
  refine r_tail ?_
  simp only [f_assoc, f_pure, f_ite]
  refine r_is ?_
  generalize isB (tokAt L s.pos) 5 ⟨#[123]⟩ = br
  cases br <;> simp only [Bool.false_eq_true, if_false, if_true]
  repeat' (first
    | with_reducible (simp only [f_assoc, f_pure, f_ite])
    | with_reducible (exact r_pure (hs.conv (by omega) (by intro x; (try dsimp only); (first | done | ((try simp only [kct_app, kct_cons, kct_nil]); (first | done | ((try simp only [kct, one]); (first | done | omega))))))))
    | with_reducible (exact r_pure ⟨trivial, hs.conv (by omega) (by intro x; (try dsimp only); (first | done | ((try simp only [kct_app, kct_cons, kct_nil]); (first | done | ((try simp only [kct, one]); (first | done | omega))))))⟩)
    | with_reducible (refine r_ite (fun hc => ?_) (fun hc => ?_))
    | with_reducible (refine r_tok ?_)
    | with_reducible (refine r_is ?_)
    | with_reducible (refine r_key ?_)
    | with_reducible (refine r_bty ?_)
    | with_reducible (refine r_fun ?_)
    | with_reducible (refine r_next1 hL (by assumption) (by (try simp [isB, beginsType, begins] at hc); omega) ?_; intro s hs)
    | with_reducible (refine r_next0 hL (by assumption) ?_; intro s hs)
    | with_reducible (refine r_kind hL (by assumption) (by omega) (by omega) ?_; intro t s hs)
    | with_reducible (refine r_want hL (by assumption) (by omega) (by omega) ?_; intro t s hs)
    | with_reducible (refine r_put (by assumption) (by omega) (by intro x; (try dsimp only); have h1 := hcc x; (try simp only [kct_app, kct_cons, kct_nil] at h1 ⊢); (try simp only [kct, one] at h1 ⊢); omega) ?_; intro i s hs)
    | with_reducible (exact r_fail (by assumption) (by omega) (by omega))
    | with_reducible (exact r_failb (by assumption) (by omega) (by omega))
    | with_reducible (refine r_down (by assumption) (by omega) ?_; intro s hd hs)
    | with_reducible (refine r_up (by assumption) ?_; intro s hs)
    | with_reducible (refine r_call M (by assumption) (by omega) (by omega) (by omega) (by omega) ?_; intro i s hs)
    | with_reducible (refine r_call (sp_semis hL (n := n)) (by assumption) (by omega) (by omega) (by omega) (by omega) ?_; intro i s hs)
    | with_reducible (refine r_loop hL (I := (fun (_ : List Nat) => True)) (J := (fun (_ : List Nat) => True)) (cur := (fun (l : List Nat) => l)) (out := (fun (l : List Nat) => l)) (by omega) (by assumption) (by omega) (trivial) (by intro x; (try dsimp only); have h1 := hcc x; (try simp only [kct_app, kct_cons, kct_nil] at h1 ⊢); (try simp only [kct, one] at h1 ⊢); omega) (fun a s p f hI hs hq hcc => r_tail ?_) (fun r s hJ hs => ?_))
    )
def TyS (L : List Bt) (n : Nat) : Prop := Sp L n 5 (types L n .typ) 1 (fun i => [i]) ∧ Sp L n 4 (types L n .btype) 1 (fun i => [i]) ∧ Sp L n 3 (types L n .atype) 1 (fun i => [i])
set_option maxHeartbeats 16000000 in
theorem spTy {n : Nat} (IH : TyS L n) : (Sp L (n + 1) 5 (types L (n + 1) .typ) 1 (fun i => [i])) ∧ (Sp L (n + 1) 4 (types L (n + 1) .btype) 1 (fun i => [i])) ∧ (Sp L (n + 1) 3 (types L (n + 1) .atype) 1 (fun i => [i])) := by
  obtain ⟨M1, M2, M3⟩ := IH
  refine ⟨?_, ?_, ?_⟩ <;> (intro T q b d p f s hs hq h0 h1 hn; (have hcc : ∀ x, kct [] x ≤ f x := fun x => hs.tr.nn x); (first | (rw [types]) | (rw [types]) | (rw [types])); refine r_tail ?_; simp only [f_assoc, f_pure, f_ite]; repeat' (first
    | with_reducible (simp only [f_assoc, f_pure, f_ite])
    | with_reducible (exact r_pure (hs.conv (by omega) (by intro x; (try dsimp only); (first | done | ((try simp only [kct_app, kct_cons, kct_nil]); (first | done | ((try simp only [kct, one]); (first | done | omega))))))))
    | with_reducible (exact r_pure ⟨trivial, hs.conv (by omega) (by intro x; (try dsimp only); (first | done | ((try simp only [kct_app, kct_cons, kct_nil]); (first | done | ((try simp only [kct, one]); (first | done | omega))))))⟩)
    | with_reducible (refine r_ite (fun hc => ?_) (fun hc => ?_))
    | with_reducible (refine r_tok ?_)
    | with_reducible (refine r_is ?_)
    | with_reducible (refine r_key ?_)
    | with_reducible (refine r_bty ?_)
    | with_reducible (refine r_fun ?_)
    | with_reducible (refine r_next1 hL (by assumption) (by (try simp [isB, beginsType, begins] at hc); omega) ?_; intro s hs)
    | with_reducible (refine r_next0 hL (by assumption) ?_; intro s hs)
    | with_reducible (refine r_kind hL (by assumption) (by omega) (by omega) ?_; intro t s hs)
    | with_reducible (refine r_want hL (by assumption) (by omega) (by omega) ?_; intro t s hs)
    | with_reducible (refine r_put (by assumption) (by omega) (by intro x; (try dsimp only); have h1 := hcc x; (try simp only [kct_app, kct_cons, kct_nil] at h1 ⊢); (try simp only [kct, one] at h1 ⊢); omega) ?_; intro i s hs)
    | with_reducible (exact r_fail (by assumption) (by omega) (by omega))
    | with_reducible (exact r_failb (by assumption) (by omega) (by omega))
    | with_reducible (refine r_down (by assumption) (by omega) ?_; intro s hd hs)
    | with_reducible (refine r_up (by assumption) ?_; intro s hs)
    | with_reducible (refine r_call M1 (by assumption) (by omega) (by omega) (by omega) (by omega) ?_; intro i s hs)
    | with_reducible (refine r_call M2 (by assumption) (by omega) (by omega) (by omega) (by omega) ?_; intro i s hs)
    | with_reducible (refine r_call M3 (by assumption) (by omega) (by omega) (by omega) (by omega) ?_; intro i s hs)
    | with_reducible (refine r_call (sp_row hL (n := n)) (by assumption) (by omega) (by omega) (by omega) (by omega) ?_; intro i s hs)
    | with_reducible (refine r_loop hL (I := (fun (_ : List Nat) => True)) (J := (fun (_ : List Nat) => True)) (cur := (fun (l : List Nat) => l)) (out := (fun (l : List Nat) => l)) (by omega) (by assumption) (by omega) (trivial) (by intro x; (try dsimp only); have h1 := hcc x; (try simp only [kct_app, kct_cons, kct_nil] at h1 ⊢); (try simp only [kct, one] at h1 ⊢); omega) (fun a s p f hI hs hq hcc => r_tail ?_) (fun r s hJ hs => ?_))
    | with_reducible (refine r_call (sp_recType hL (n := n) (rk := 5) (by omega) M1) (by assumption) (by omega) (by omega) (by omega) (by omega) ?_; intro i s hs)
    ))
theorem sp_ty_typ {n : Nat} (IH : TyS L n) : Sp L (n + 1) 5 (types L (n + 1) .typ) 1 (fun i => [i]) := (spTy hL IH (n := n)).1
theorem sp_ty_btype {n : Nat} (IH : TyS L n) : Sp L (n + 1) 4 (types L (n + 1) .btype) 1 (fun i => [i]) := (spTy hL IH (n := n)).2.1
theorem sp_ty_atype {n : Nat} (IH : TyS L n) : Sp L (n + 1) 3 (types L (n + 1) .atype) 1 (fun i => [i]) := (spTy hL IH (n := n)).2.2
theorem sp_types : ∀ n, TyS L n
  | 0 => ⟨fun T q b d p f s hs hq h0 h1 hn => by omega, fun T q b d p f s hs hq h0 h1 hn => by omega, fun T q b d p f s hs hq h0 h1 hn => by omega⟩
  | n + 1 => ⟨sp_ty_typ hL (sp_types n), sp_ty_btype hL (sp_types n), sp_ty_atype hL (sp_types n)⟩
def PaS (L : List Bt) (n : Nat) : Prop := Sp L n 1 (pats L n .pattern) 1 (fun i => [i]) ∧ Sp L n 2 (pats L n .apat) 1 (fun i => [i])
set_option maxHeartbeats 16000000 in
theorem spPa {n : Nat} (IH : PaS L n) : (Sp L (n + 1) 1 (pats L (n + 1) .pattern) 1 (fun i => [i])) ∧ (Sp L (n + 1) 2 (pats L (n + 1) .apat) 1 (fun i => [i])) := by
  obtain ⟨M1, M2⟩ := IH
  refine ⟨?_, ?_⟩ <;> (intro T q b d p f s hs hq h0 h1 hn; (have hcc : ∀ x, kct [] x ≤ f x := fun x => hs.tr.nn x); (first | (rw [pats]) | (rw [pats])); refine r_tail ?_; simp only [f_assoc, f_pure, f_ite]; repeat' (first
    | with_reducible (simp only [f_assoc, f_pure, f_ite])
    | with_reducible (exact r_pure (hs.conv (by omega) (by intro x; (try dsimp only); (first | done | ((try simp only [kct_app, kct_cons, kct_nil]); (first | done | ((try simp only [kct, one]); (first | done | omega))))))))
    | with_reducible (exact r_pure ⟨trivial, hs.conv (by omega) (by intro x; (try dsimp only); (first | done | ((try simp only [kct_app, kct_cons, kct_nil]); (first | done | ((try simp only [kct, one]); (first | done | omega))))))⟩)
    | with_reducible (refine r_ite (fun hc => ?_) (fun hc => ?_))
    | with_reducible (refine r_tok ?_)
    | with_reducible (refine r_is ?_)
    | with_reducible (refine r_key ?_)
    | with_reducible (refine r_bty ?_)
    | with_reducible (refine r_fun ?_)
    | with_reducible (refine r_next1 hL (by assumption) (by (try simp [isB, beginsType, begins] at hc); omega) ?_; intro s hs)
    | with_reducible (refine r_next0 hL (by assumption) ?_; intro s hs)
    | with_reducible (refine r_kind hL (by assumption) (by omega) (by omega) ?_; intro t s hs)
    | with_reducible (refine r_want hL (by assumption) (by omega) (by omega) ?_; intro t s hs)
    | with_reducible (refine r_put (by assumption) (by omega) (by intro x; (try dsimp only); have h1 := hcc x; (try simp only [kct_app, kct_cons, kct_nil] at h1 ⊢); (try simp only [kct, one] at h1 ⊢); omega) ?_; intro i s hs)
    | with_reducible (exact r_fail (by assumption) (by omega) (by omega))
    | with_reducible (exact r_failb (by assumption) (by omega) (by omega))
    | with_reducible (refine r_down (by assumption) (by omega) ?_; intro s hd hs)
    | with_reducible (refine r_up (by assumption) ?_; intro s hs)
    | with_reducible (refine r_call M1 (by assumption) (by omega) (by omega) (by omega) (by omega) ?_; intro i s hs)
    | with_reducible (refine r_call M2 (by assumption) (by omega) (by omega) (by omega) (by omega) ?_; intro i s hs)
    | with_reducible (refine r_loop hL (I := (fun (_ : List Nat) => True)) (J := (fun (_ : List Nat) => True)) (cur := (fun (l : List Nat) => l)) (out := (fun (l : List Nat) => l)) (by omega) (by assumption) (by omega) (trivial) (by intro x; (try dsimp only); have h1 := hcc x; (try simp only [kct_app, kct_cons, kct_nil] at h1 ⊢); (try simp only [kct, one] at h1 ⊢); omega) (fun a s p f hI hs hq hcc => r_tail ?_) (fun r s hJ hs => ?_))
    | with_reducible (refine r_call (sp_param hL (n := n)) (by assumption) (by omega) (by omega) (by omega) (by omega) ?_; intro i s hs)
    ))
theorem sp_pa_pattern {n : Nat} (IH : PaS L n) : Sp L (n + 1) 1 (pats L (n + 1) .pattern) 1 (fun i => [i]) := (spPa hL IH (n := n)).1
theorem sp_pa_apat {n : Nat} (IH : PaS L n) : Sp L (n + 1) 2 (pats L (n + 1) .apat) 1 (fun i => [i]) := (spPa hL IH (n := n)).2
theorem sp_pats : ∀ n, PaS L n
  | 0 => ⟨fun T q b d p f s hs hq h0 h1 hn => by omega, fun T q b d p f s hs hq h0 h1 hn => by omega⟩
  | n + 1 => ⟨sp_pa_pattern hL (sp_pats n), sp_pa_apat hL (sp_pats n)⟩
theorem scanAt_some : ∀ (n i : Nat), i < L.length → L.length - i ≤ n → ∃ j, scanAt L n i = some j
  | 0, i, h, hn => absurd hn (by omega)
  | n + 1, i, h, hn => by
    unfold scanAt
    split
    · rename_i hc
      have h9 : ¬ (tokAt L i).kind = 9 := fun e => by simp [isB, e] at hc
      have hne : ¬ i + 1 = L.length := fun e => h9 ((hL.last i h).2 e)
      exact scanAt_some n (i + 1) (by omega) (by omega)
    · exact ⟨_, rfl⟩
theorem sp_preds {n : Nat} : Sp L n 0 (preds L n) 0 (fun l => l) := by
  intro T q b d p f s hs hq h0 h1 hn
  obtain ⟨j, hj⟩ := scanAt_some hL n s.pos hs.hi (by omega)
  unfold Wp preds
  rw [hj]
  dsimp only
  by_cases hc : isB (tokAt L j) 4 ⟨#[61, 62]⟩ = true
  · rw [if_pos hc]
    exact sp_predList hL T q b d p f s hs hq h0 h1 hn
  · rw [if_neg hc]
    exact hs.conv (by omega) (fun x => by simp [kct])
set_option maxHeartbeats 4000000 in
theorem sp_sigOf {n : Nat} (name : ByteArray) : Sp L n 5 (sigOf L n name) 1 (fun i => [i]) := by
  intro T q b d p f s hs hq h0 h1 hn
  have hcc : ∀ x, kct [] x ≤ f x := fun x => hs.tr.nn x
  obtain ⟨M1, M2, M3⟩ := sp_types hL n
  unfold sigOf typ
  refine r_tail ?_
  simp only [f_assoc, f_pure, f_ite]
  repeat' (first
    | with_reducible (simp only [f_assoc, f_pure, f_ite])
    | with_reducible (exact r_pure (hs.conv (by omega) (by intro x; (try dsimp only); (first | done | ((try simp only [kct_app, kct_cons, kct_nil]); (first | done | ((try simp only [kct, one]); (first | done | omega))))))))
    | with_reducible (exact r_pure ⟨trivial, hs.conv (by omega) (by intro x; (try dsimp only); (first | done | ((try simp only [kct_app, kct_cons, kct_nil]); (first | done | ((try simp only [kct, one]); (first | done | omega))))))⟩)
    | with_reducible (refine r_ite (fun hc => ?_) (fun hc => ?_))
    | with_reducible (refine r_tok ?_)
    | with_reducible (refine r_is ?_)
    | with_reducible (refine r_key ?_)
    | with_reducible (refine r_bty ?_)
    | with_reducible (refine r_fun ?_)
    | with_reducible (refine r_next1 hL (by assumption) (by (try simp [isB, beginsType, begins] at hc); omega) ?_; intro s hs)
    | with_reducible (refine r_next0 hL (by assumption) ?_; intro s hs)
    | with_reducible (refine r_kind hL (by assumption) (by omega) (by omega) ?_; intro t s hs)
    | with_reducible (refine r_want hL (by assumption) (by omega) (by omega) ?_; intro t s hs)
    | with_reducible (refine r_put (by assumption) (by omega) (by intro x; (try dsimp only); have h1 := hcc x; (try simp only [kct_app, kct_cons, kct_nil] at h1 ⊢); (try simp only [kct, one] at h1 ⊢); omega) ?_; intro i s hs)
    | with_reducible (exact r_fail (by assumption) (by omega) (by omega))
    | with_reducible (exact r_failb (by assumption) (by omega) (by omega))
    | with_reducible (refine r_down (by assumption) (by omega) ?_; intro s hd hs)
    | with_reducible (refine r_up (by assumption) ?_; intro s hs)
    | with_reducible (refine r_call (sp_preds hL (n := n)) (by assumption) (by omega) (by omega) (by omega) (by omega) ?_; intro i s hs)
    | with_reducible (refine r_call M1 (by assumption) (by omega) (by omega) (by omega) (by omega) ?_; intro i s hs)
    )
set_option maxHeartbeats 4000000 in
theorem sp_sig {n : Nat} : Sp L n 5 (sig L n) 1 (fun i => [i]) := by
  intro T q b d p f s hs hq h0 h1 hn
  have hcc : ∀ x, kct [] x ≤ f x := fun x => hs.tr.nn x
  unfold sig
  refine r_tail ?_
  simp only [f_assoc, f_pure, f_ite]
  repeat' (first
    | with_reducible (simp only [f_assoc, f_pure, f_ite])
    | with_reducible (exact r_pure (hs.conv (by omega) (by intro x; (try dsimp only); (first | done | ((try simp only [kct_app, kct_cons, kct_nil]); (first | done | ((try simp only [kct, one]); (first | done | omega))))))))
    | with_reducible (exact r_pure ⟨trivial, hs.conv (by omega) (by intro x; (try dsimp only); (first | done | ((try simp only [kct_app, kct_cons, kct_nil]); (first | done | ((try simp only [kct, one]); (first | done | omega))))))⟩)
    | with_reducible (refine r_ite (fun hc => ?_) (fun hc => ?_))
    | with_reducible (refine r_tok ?_)
    | with_reducible (refine r_is ?_)
    | with_reducible (refine r_key ?_)
    | with_reducible (refine r_bty ?_)
    | with_reducible (refine r_fun ?_)
    | with_reducible (refine r_next1 hL (by assumption) (by (try simp [isB, beginsType, begins] at hc); omega) ?_; intro s hs)
    | with_reducible (refine r_next0 hL (by assumption) ?_; intro s hs)
    | with_reducible (refine r_kind hL (by assumption) (by omega) (by omega) ?_; intro t s hs)
    | with_reducible (refine r_want hL (by assumption) (by omega) (by omega) ?_; intro t s hs)
    | with_reducible (refine r_put (by assumption) (by omega) (by intro x; (try dsimp only); have h1 := hcc x; (try simp only [kct_app, kct_cons, kct_nil] at h1 ⊢); (try simp only [kct, one] at h1 ⊢); omega) ?_; intro i s hs)
    | with_reducible (exact r_fail (by assumption) (by omega) (by omega))
    | with_reducible (exact r_failb (by assumption) (by omega) (by omega))
    | with_reducible (refine r_down (by assumption) (by omega) ?_; intro s hd hs)
    | with_reducible (refine r_up (by assumption) ?_; intro s hs)
    | with_reducible (refine r_call (sp_defined hL (n := n)) (by assumption) (by omega) (by omega) (by omega) (by omega) ?_; intro i s hs)
    | with_reducible (refine r_call (sp_sigOf hL (n := n) _) (by assumption) (by omega) (by omega) (by omega) (by omega) ?_; intro i s hs)
    )
structure ExS (L : List Bt) (n : Nat) : Prop where
  expr : Sp L n 6 (exprs L n .expr) 1 (fun i => [i])
  ops : Sp L n 12 (exprs L n .ops) 1 (fun i => [i])
  apply : Sp L n 11 (exprs L n .apply) 1 (fun i => [i])
  post : Sp L n 10 (exprs L n .post) 1 (fun i => [i])
  atom : Sp L n 9 (exprs L n .atom) 1 (fun i => [i])
  record : Sp9 L n 8 (exprs L n .record) 1 (fun i => [i])
  changed : Sp L n 7 (exprs L n .changed) 1 (fun i => [i])
  alt : Sp L n 7 (exprs L n .alt) 1 (fun i => [i])
  clause : Sp L n 7 (exprs L n .clause) 1 (fun i => [i])
  defn : Sp L n 8 (exprs L n .defn) 1 (fun i => [i])
  defOf : ∀ name, Sp L n 7 (exprs L n (.defOf name)) 1 (fun i => [i])
set_option maxHeartbeats 16000000 in
theorem spEx {n : Nat} (IH : ExS L n) : (Sp L (n + 1) 6 (exprs L (n + 1) .expr) 1 (fun i => [i])) ∧ (Sp L (n + 1) 12 (exprs L (n + 1) .ops) 1 (fun i => [i])) ∧ (Sp L (n + 1) 11 (exprs L (n + 1) .apply) 1 (fun i => [i])) ∧ (Sp L (n + 1) 10 (exprs L (n + 1) .post) 1 (fun i => [i])) ∧ (Sp L (n + 1) 9 (exprs L (n + 1) .atom) 1 (fun i => [i])) ∧ (Sp L (n + 1) 7 (exprs L (n + 1) .changed) 1 (fun i => [i])) ∧ (Sp L (n + 1) 7 (exprs L (n + 1) .alt) 1 (fun i => [i])) ∧ (Sp L (n + 1) 7 (exprs L (n + 1) .clause) 1 (fun i => [i])) ∧ (Sp L (n + 1) 8 (exprs L (n + 1) .defn) 1 (fun i => [i])) := by
  obtain ⟨Mexpr, Mops, Mapply, Mpost, Matom, Mrecord, Mchanged, Malt, Mclause, Mdefn, MdefOf⟩ := IH
  obtain ⟨MP1, MP2⟩ := sp_pats hL n
  refine ⟨?_, ?_, ?_, ?_, ?_, ?_, ?_, ?_, ?_⟩ <;> (intro T q b d p f s hs hq h0 h1 hn; (have hcc : ∀ x, kct [] x ≤ f x := fun x => hs.tr.nn x); (first | (rw [exprs]) | (rw [exprs]) | (rw [exprs]) | (rw [exprs]) | (rw [exprs]) | (rw [exprs]) | (rw [exprs]) | (rw [exprs]) | (rw [exprs])); refine r_tail ?_; simp only [f_assoc, f_pure, f_ite]; repeat' (first
    | with_reducible (simp only [f_assoc, f_pure, f_ite])
    | with_reducible (exact r_pure (hs.conv (by omega) (by intro x; (try dsimp only); (first | done | ((try simp only [kct_app, kct_cons, kct_nil]); (first | done | ((try simp only [kct, one]); (first | done | omega))))))))
    | with_reducible (exact r_pure ⟨trivial, hs.conv (by omega) (by intro x; (try dsimp only); (first | done | ((try simp only [kct_app, kct_cons, kct_nil]); (first | done | ((try simp only [kct, one]); (first | done | omega))))))⟩)
    | with_reducible (exact r_pure (hs.conv (by omega) (by obtain ⟨y, rfl⟩ := List.length_eq_one_iff.1 hc; intro x; simp only [List.headD_cons]; omega)))
    | with_reducible (refine r_ite (fun hc => ?_) (fun hc => ?_))
    | with_reducible (refine r_tok ?_)
    | with_reducible (refine r_is ?_)
    | with_reducible (refine r_key ?_)
    | with_reducible (refine r_bty ?_)
    | with_reducible (refine r_fun ?_)
    | with_reducible (refine r_next1 hL (by assumption) (by (try simp [isB, beginsType, begins] at hc); omega) ?_; intro s hs)
    | with_reducible (refine r_next0 hL (by assumption) ?_; intro s hs)
    | with_reducible (refine r_kind hL (by assumption) (by omega) (by omega) ?_; intro t s hs)
    | with_reducible (refine r_want hL (by assumption) (by omega) (by omega) ?_; intro t s hs)
    | with_reducible (refine r_put (by assumption) (by omega) (by intro x; (try dsimp only); have h1 := hcc x; (try simp only [kct_app, kct_cons, kct_nil] at h1 ⊢); (try simp only [kct, one] at h1 ⊢); omega) ?_; intro i s hs)
    | with_reducible (exact r_fail (by assumption) (by omega) (by omega))
    | with_reducible (exact r_failb (by assumption) (by omega) (by omega))
    | with_reducible (refine r_down (by assumption) (by omega) ?_; intro s hd hs)
    | with_reducible (refine r_up (by assumption) ?_; intro s hs)
    | with_reducible (refine r_call Mexpr (by assumption) (by omega) (by omega) (by omega) (by omega) ?_; intro i s hs)
    | with_reducible (refine r_call Mops (by assumption) (by omega) (by omega) (by omega) (by omega) ?_; intro i s hs)
    | with_reducible (refine r_call Mapply (by assumption) (by omega) (by omega) (by omega) (by omega) ?_; intro i s hs)
    | with_reducible (refine r_call Mpost (by assumption) (by omega) (by omega) (by omega) (by omega) ?_; intro i s hs)
    | with_reducible (refine r_call Matom (by assumption) (by omega) (by omega) (by omega) (by omega) ?_; intro i s hs)
    | with_reducible (refine r_call Mchanged (by assumption) (by omega) (by omega) (by omega) (by omega) ?_; intro i s hs)
    | with_reducible (refine r_call Malt (by assumption) (by omega) (by omega) (by omega) (by omega) ?_; intro i s hs)
    | with_reducible (refine r_call Mclause (by assumption) (by omega) (by omega) (by omega) (by omega) ?_; intro i s hs)
    | with_reducible (refine r_call Mdefn (by assumption) (by omega) (by omega) (by omega) (by omega) ?_; intro i s hs)
    | with_reducible (refine r_call (MdefOf _) (by assumption) (by omega) (by omega) (by omega) (by omega) ?_; intro i s hs)
    | with_reducible (refine r_call (sp_block hL (n := n) (rk := 8) (by omega) Mdefn) (by assumption) (by omega) (by omega) (by omega) (by omega) ?_; intro i s hs)
    | with_reducible (refine r_call (sp_block hL (n := n) (rk := 7) (by omega) Malt) (by assumption) (by omega) (by omega) (by omega) (by omega) ?_; intro i s hs)
    | with_reducible (refine r_call (sp_block hL (n := n) (rk := 7) (by omega) Mclause) (by assumption) (by omega) (by omega) (by omega) (by omega) ?_; intro i s hs)
    | with_reducible (refine r_call (sp_param hL (n := n)) (by assumption) (by omega) (by omega) (by omega) (by omega) ?_; intro i s hs)
    | with_reducible (refine r_loop hL (I := (fun (_ : List Nat) => True)) (J := (fun (_ : List Nat) => True)) (cur := (fun (l : List Nat) => l)) (out := (fun (l : List Nat) => l)) (by omega) (by assumption) (by omega) (trivial) (by intro x; (try dsimp only); have h1 := hcc x; (try simp only [kct_app, kct_cons, kct_nil] at h1 ⊢); (try simp only [kct, one] at h1 ⊢); omega) (fun a s p f hI hs hq hcc => r_tail ?_) (fun r s hJ hs => ?_))
    | with_reducible (refine r_loop hL (I := (fun (_ : Nat × Nat) => True)) (J := (fun (_ : Nat) => True)) (cur := (fun (a : Nat × Nat) => [a.1])) (out := (fun (r : Nat) => [r])) (by omega) (by assumption) (by omega) (trivial) (by intro x; (try dsimp only); have h1 := hcc x; (try simp only [kct_app, kct_cons, kct_nil] at h1 ⊢); (try simp only [kct, one] at h1 ⊢); omega) (fun a s p f hI hs hq hcc => r_tail ?_) (fun r s hJ hs => ?_))
    | with_reducible (refine r_call9 Mrecord (by assumption) (by omega) (by omega) (by omega) (by omega) (by (try simp [isB, beginsType, begins] at hc); omega) ?_; intro i s hs)
    | with_reducible (refine r_call MP1 (by assumption) (by omega) (by omega) (by omega) (by omega) ?_; intro i s hs)
    | with_reducible (refine r_call (sp_defined hL (n := n)) (by assumption) (by omega) (by omega) (by omega) (by omega) ?_; intro i s hs)
    | with_reducible (refine r_call (sp_sigOf hL (n := n) _) (by assumption) (by omega) (by omega) (by omega) (by omega) ?_; intro i s hs)
    ))
theorem sp_ex_expr {n : Nat} (IH : ExS L n) : Sp L (n + 1) 6 (exprs L (n + 1) .expr) 1 (fun i => [i]) := (spEx hL IH (n := n)).1
theorem sp_ex_ops {n : Nat} (IH : ExS L n) : Sp L (n + 1) 12 (exprs L (n + 1) .ops) 1 (fun i => [i]) := (spEx hL IH (n := n)).2.1
theorem sp_ex_apply {n : Nat} (IH : ExS L n) : Sp L (n + 1) 11 (exprs L (n + 1) .apply) 1 (fun i => [i]) := (spEx hL IH (n := n)).2.2.1
theorem sp_ex_post {n : Nat} (IH : ExS L n) : Sp L (n + 1) 10 (exprs L (n + 1) .post) 1 (fun i => [i]) := (spEx hL IH (n := n)).2.2.2.1
theorem sp_ex_atom {n : Nat} (IH : ExS L n) : Sp L (n + 1) 9 (exprs L (n + 1) .atom) 1 (fun i => [i]) := (spEx hL IH (n := n)).2.2.2.2.1
theorem sp_ex_changed {n : Nat} (IH : ExS L n) : Sp L (n + 1) 7 (exprs L (n + 1) .changed) 1 (fun i => [i]) := (spEx hL IH (n := n)).2.2.2.2.2.1
theorem sp_ex_alt {n : Nat} (IH : ExS L n) : Sp L (n + 1) 7 (exprs L (n + 1) .alt) 1 (fun i => [i]) := (spEx hL IH (n := n)).2.2.2.2.2.2.1
theorem sp_ex_clause {n : Nat} (IH : ExS L n) : Sp L (n + 1) 7 (exprs L (n + 1) .clause) 1 (fun i => [i]) := (spEx hL IH (n := n)).2.2.2.2.2.2.2.1
theorem sp_ex_defn {n : Nat} (IH : ExS L n) : Sp L (n + 1) 8 (exprs L (n + 1) .defn) 1 (fun i => [i]) := (spEx hL IH (n := n)).2.2.2.2.2.2.2.2
set_option maxHeartbeats 4000000 in
theorem sp_ex_record {n : Nat} (IH : ExS L n) : Sp9 L (n + 1) 8 (exprs L (n + 1) .record) 1 (fun i => [i]) := by
  intro T q b d p f s hs hq h0 h1 hn hc
  have hcc : ∀ x, kct [] x ≤ f x := fun x => hs.tr.nn x
  obtain ⟨Mexpr, Mops, Mapply, Mpost, Matom, Mrecord, Mchanged, Malt, Mclause, Mdefn, MdefOf⟩ := IH
  rw [exprs]
  simp only [f_assoc, f_pure, f_ite]
  repeat' (first
    | with_reducible (have ha0 := List.eq_nil_of_length_eq_zero hc; subst ha0)
    | with_reducible (exact r_pure (hs.conv (by omega) (by intro x; (try dsimp only); (first | done | ((try simp only [kct_app, kct_cons, kct_nil]); (first | done | ((try simp only [kct, one]); (first | done | omega))))))))
    | with_reducible (exact r_pure ⟨trivial, hs.conv (by omega) (by intro x; (try dsimp only); (first | done | ((try simp only [kct_app, kct_cons, kct_nil]); (first | done | ((try simp only [kct, one]); (first | done | omega))))))⟩)
    | with_reducible (refine r_ite (fun hc => ?_) (fun hc => ?_))
    | with_reducible (refine r_tok ?_)
    | with_reducible (refine r_is ?_)
    | with_reducible (refine r_key ?_)
    | with_reducible (refine r_bty ?_)
    | with_reducible (refine r_fun ?_)
    | with_reducible (refine r_next1 hL (by assumption) (by (try simp [isB, beginsType, begins] at hc); omega) ?_; intro s hs)
    | with_reducible (refine r_next0 hL (by assumption) ?_; intro s hs)
    | with_reducible (refine r_kind hL (by assumption) (by omega) (by omega) ?_; intro t s hs)
    | with_reducible (refine r_want hL (by assumption) (by omega) (by omega) ?_; intro t s hs)
    | with_reducible (refine r_put (by assumption) (by omega) (by intro x; (try dsimp only); have h1 := hcc x; (try simp only [kct_app, kct_cons, kct_nil] at h1 ⊢); (try simp only [kct, one] at h1 ⊢); omega) ?_; intro i s hs)
    | with_reducible (refine r_tail (r_put (by assumption) (by omega) (by intro x; (try dsimp only); have h1 := hcc x; (try simp only [kct_app, kct_cons, kct_nil] at h1 ⊢); (try simp only [kct, one] at h1 ⊢); omega) ?_); intro i s hs)
    | with_reducible (exact r_fail (by assumption) (by omega) (by omega))
    | with_reducible (exact r_failb (by assumption) (by omega) (by omega))
    | with_reducible (refine r_down (by assumption) (by omega) ?_; intro s hd hs)
    | with_reducible (refine r_up (by assumption) ?_; intro s hs)
    | with_reducible (refine r_call Mexpr (by assumption) (by omega) (by omega) (by omega) (by omega) ?_; intro i s hs)
    | with_reducible (refine r_tail (r_call Mexpr (by assumption) (by omega) (by omega) (by omega) (by omega) ?_); intro i s hs)
    | with_reducible (refine r_call Mops (by assumption) (by omega) (by omega) (by omega) (by omega) ?_; intro i s hs)
    | with_reducible (refine r_tail (r_call Mops (by assumption) (by omega) (by omega) (by omega) (by omega) ?_); intro i s hs)
    | with_reducible (refine r_call Mapply (by assumption) (by omega) (by omega) (by omega) (by omega) ?_; intro i s hs)
    | with_reducible (refine r_tail (r_call Mapply (by assumption) (by omega) (by omega) (by omega) (by omega) ?_); intro i s hs)
    | with_reducible (refine r_call Mpost (by assumption) (by omega) (by omega) (by omega) (by omega) ?_; intro i s hs)
    | with_reducible (refine r_tail (r_call Mpost (by assumption) (by omega) (by omega) (by omega) (by omega) ?_); intro i s hs)
    | with_reducible (refine r_call Matom (by assumption) (by omega) (by omega) (by omega) (by omega) ?_; intro i s hs)
    | with_reducible (refine r_tail (r_call Matom (by assumption) (by omega) (by omega) (by omega) (by omega) ?_); intro i s hs)
    | with_reducible (refine r_call Mchanged (by assumption) (by omega) (by omega) (by omega) (by omega) ?_; intro i s hs)
    | with_reducible (refine r_tail (r_call Mchanged (by assumption) (by omega) (by omega) (by omega) (by omega) ?_); intro i s hs)
    | with_reducible (refine r_call Malt (by assumption) (by omega) (by omega) (by omega) (by omega) ?_; intro i s hs)
    | with_reducible (refine r_tail (r_call Malt (by assumption) (by omega) (by omega) (by omega) (by omega) ?_); intro i s hs)
    | with_reducible (refine r_call Mclause (by assumption) (by omega) (by omega) (by omega) (by omega) ?_; intro i s hs)
    | with_reducible (refine r_tail (r_call Mclause (by assumption) (by omega) (by omega) (by omega) (by omega) ?_); intro i s hs)
    | with_reducible (refine r_call Mdefn (by assumption) (by omega) (by omega) (by omega) (by omega) ?_; intro i s hs)
    | with_reducible (refine r_tail (r_call Mdefn (by assumption) (by omega) (by omega) (by omega) (by omega) ?_); intro i s hs)
    | with_reducible (refine r_call (MdefOf _) (by assumption) (by omega) (by omega) (by omega) (by omega) ?_; intro i s hs)
    | with_reducible (refine r_tail (r_call (MdefOf _) (by assumption) (by omega) (by omega) (by omega) (by omega) ?_); intro i s hs)
    | with_reducible (rcases r with r | r)
    | with_reducible (refine r_loop hL (I := (fun (_ : List Nat) => True)) (J := (fun (_ : List Nat ⊕ Nat) => True)) (cur := (fun (l : List Nat) => l)) (out := (fun (r : List Nat ⊕ Nat) => match r with | .inl l => l | .inr x => [x])) (by omega) (by assumption) (by omega) (trivial) (by intro x; (try dsimp only); have h1 := hcc x; (try simp only [kct_app, kct_cons, kct_nil] at h1 ⊢); (try simp only [kct, one] at h1 ⊢); omega) (fun a s p f hI hs hq hcc => ?_) (fun r s hJ hs => ?_))
    | with_reducible (refine r_tail (r_loop hL (I := (fun (_ : List Nat) => True)) (J := (fun (_ : List Nat ⊕ Nat) => True)) (cur := (fun (l : List Nat) => l)) (out := (fun (r : List Nat ⊕ Nat) => match r with | .inl l => l | .inr x => [x])) (by omega) (by assumption) (by omega) (trivial) (by intro x; (try dsimp only); have h1 := hcc x; (try simp only [kct_app, kct_cons, kct_nil] at h1 ⊢); (try simp only [kct, one] at h1 ⊢); omega) (fun a s p f hI hs hq hcc => ?_) (fun r s hJ hs => ?_)))
    )
set_option maxHeartbeats 4000000 in
theorem sp_ex_defOf (name : ByteArray) {n : Nat} (IH : ExS L n) : Sp L (n + 1) 7 (exprs L (n + 1) (.defOf name)) 1 (fun i => [i]) := by
  intro T q b d p f s hs hq h0 h1 hn
  have hcc : ∀ x, kct [] x ≤ f x := fun x => hs.tr.nn x
  obtain ⟨Mexpr, Mops, Mapply, Mpost, Matom, Mrecord, Mchanged, Malt, Mclause, Mdefn, MdefOf⟩ := IH
  rw [exprs]
  refine r_tail ?_
  simp only [f_assoc, f_pure, f_ite]
  repeat' (first
    | with_reducible (simp only [f_assoc, f_pure, f_ite])
    | with_reducible (have hr0 := List.eq_nil_of_length_eq_zero (Nat.eq_zero_of_not_pos hc); subst hr0)
    | with_reducible (exact r_pure (hs.conv (by omega) (by intro x; (try dsimp only); (first | done | ((try simp only [kct_app, kct_cons, kct_nil]); (first | done | ((try simp only [kct, one]); (first | done | omega))))))))
    | with_reducible (exact r_pure ⟨trivial, hs.conv (by omega) (by intro x; (try dsimp only); (first | done | ((try simp only [kct_app, kct_cons, kct_nil]); (first | done | ((try simp only [kct, one]); (first | done | omega))))))⟩)
    | with_reducible (refine r_ite (fun hc => ?_) (fun hc => ?_))
    | with_reducible (refine r_tok ?_)
    | with_reducible (refine r_is ?_)
    | with_reducible (refine r_key ?_)
    | with_reducible (refine r_bty ?_)
    | with_reducible (refine r_fun ?_)
    | with_reducible (refine r_next1 hL (by assumption) (by (try simp [isB, beginsType, begins] at hc); omega) ?_; intro s hs)
    | with_reducible (refine r_next0 hL (by assumption) ?_; intro s hs)
    | with_reducible (refine r_kind hL (by assumption) (by omega) (by omega) ?_; intro t s hs)
    | with_reducible (refine r_want hL (by assumption) (by omega) (by omega) ?_; intro t s hs)
    | with_reducible (refine r_put (by assumption) (by omega) (by intro x; (try dsimp only); have h1 := hcc x; (try simp only [kct_app, kct_cons, kct_nil] at h1 ⊢); (try simp only [kct, one] at h1 ⊢); omega) ?_; intro i s hs)
    | with_reducible (exact r_fail (by assumption) (by omega) (by omega))
    | with_reducible (exact r_failb (by assumption) (by omega) (by omega))
    | with_reducible (refine r_down (by assumption) (by omega) ?_; intro s hd hs)
    | with_reducible (refine r_up (by assumption) ?_; intro s hs)
    | with_reducible (refine r_call Mexpr (by assumption) (by omega) (by omega) (by omega) (by omega) ?_; intro i s hs)
    | with_reducible (refine r_call Mops (by assumption) (by omega) (by omega) (by omega) (by omega) ?_; intro i s hs)
    | with_reducible (refine r_call Mapply (by assumption) (by omega) (by omega) (by omega) (by omega) ?_; intro i s hs)
    | with_reducible (refine r_call Mpost (by assumption) (by omega) (by omega) (by omega) (by omega) ?_; intro i s hs)
    | with_reducible (refine r_call Matom (by assumption) (by omega) (by omega) (by omega) (by omega) ?_; intro i s hs)
    | with_reducible (refine r_call Mchanged (by assumption) (by omega) (by omega) (by omega) (by omega) ?_; intro i s hs)
    | with_reducible (refine r_call Malt (by assumption) (by omega) (by omega) (by omega) (by omega) ?_; intro i s hs)
    | with_reducible (refine r_call Mclause (by assumption) (by omega) (by omega) (by omega) (by omega) ?_; intro i s hs)
    | with_reducible (refine r_call Mdefn (by assumption) (by omega) (by omega) (by omega) (by omega) ?_; intro i s hs)
    | with_reducible (refine r_call (MdefOf _) (by assumption) (by omega) (by omega) (by omega) (by omega) ?_; intro i s hs)
    | with_reducible (refine r_call (sp_param hL (n := n)) (by assumption) (by omega) (by omega) (by omega) (by omega) ?_; intro i s hs)
    | with_reducible (refine r_loop hL (I := (fun (_ : List Nat) => True)) (J := (fun (_ : List Nat) => True)) (cur := (fun (l : List Nat) => l)) (out := (fun (l : List Nat) => l)) (by omega) (by assumption) (by omega) (trivial) (by intro x; (try dsimp only); have h1 := hcc x; (try simp only [kct_app, kct_cons, kct_nil] at h1 ⊢); (try simp only [kct, one] at h1 ⊢); omega) (fun a s p f hI hs hq hcc => r_tail ?_) (fun r s hJ hs => ?_))
    )
theorem sp_exprs : ∀ n, ExS L n
  | 0 => ⟨fun T q b d p f s hs hq h0 h1 hn => by omega, fun T q b d p f s hs hq h0 h1 hn => by omega, fun T q b d p f s hs hq h0 h1 hn => by omega, fun T q b d p f s hs hq h0 h1 hn => by omega, fun T q b d p f s hs hq h0 h1 hn => by omega, fun T q b d p f s hs hq h0 h1 hn _ => by omega, fun T q b d p f s hs hq h0 h1 hn => by omega, fun T q b d p f s hs hq h0 h1 hn => by omega, fun T q b d p f s hs hq h0 h1 hn => by omega, fun T q b d p f s hs hq h0 h1 hn => by omega, fun name => fun T q b d p f s hs hq h0 h1 hn => by omega⟩
  | n + 1 => ⟨sp_ex_expr hL (sp_exprs n), sp_ex_ops hL (sp_exprs n), sp_ex_apply hL (sp_exprs n), sp_ex_post hL (sp_exprs n), sp_ex_atom hL (sp_exprs n), sp_ex_record hL (sp_exprs n), sp_ex_changed hL (sp_exprs n), sp_ex_alt hL (sp_exprs n), sp_ex_clause hL (sp_exprs n), sp_ex_defn hL (sp_exprs n), fun name => sp_ex_defOf hL name (sp_exprs n)⟩
set_option maxHeartbeats 16000000 in
theorem spD {n : Nat} : (Sp L n 7 (onlyDef L n) 1 (fun i => [i])) ∧ (Sp L n 4 (opSig L n) 1 (fun i => [i])) ∧ (Sp L n 0 (imports L n) 1 (fun i => [i])) ∧ (Sp L n 0 (fix L) 1 (fun i => [i])) ∧ (Sp L n 3 (data L n) 1 (fun i => [i])) := by
  obtain ⟨M1, M2, M3⟩ := sp_types hL n
  refine ⟨?_, ?_, ?_, ?_, ?_⟩ <;> (intro T q b d p f s hs hq h0 h1 hn; (have hcc : ∀ x, kct [] x ≤ f x := fun x => hs.tr.nn x); (first | (unfold onlyDef) | (unfold opSig btype) | (unfold imports) | (unfold fix) | (unfold data atype)); refine r_tail ?_; simp only [f_assoc, f_pure, f_ite]; repeat' (first
    | with_reducible (simp only [f_assoc, f_pure, f_ite])
    | with_reducible (exact r_pure (hs.conv (by omega) (by intro x; (try dsimp only); (first | done | ((try simp only [kct_app, kct_cons, kct_nil]); (first | done | ((try simp only [kct, one]); (first | done | omega))))))))
    | with_reducible (exact r_pure ⟨trivial, hs.conv (by omega) (by intro x; (try dsimp only); (first | done | ((try simp only [kct_app, kct_cons, kct_nil]); (first | done | ((try simp only [kct, one]); (first | done | omega))))))⟩)
    | with_reducible (refine r_ite (fun hc => ?_) (fun hc => ?_))
    | with_reducible (refine r_tok ?_)
    | with_reducible (refine r_is ?_)
    | with_reducible (refine r_key ?_)
    | with_reducible (refine r_bty ?_)
    | with_reducible (refine r_fun ?_)
    | with_reducible (refine r_next1 hL (by assumption) (by (try simp [isB, beginsType, begins] at hc); omega) ?_; intro s hs)
    | with_reducible (refine r_next0 hL (by assumption) ?_; intro s hs)
    | with_reducible (refine r_kind hL (by assumption) (by omega) (by omega) ?_; intro t s hs)
    | with_reducible (refine r_want hL (by assumption) (by omega) (by omega) ?_; intro t s hs)
    | with_reducible (refine r_put (by assumption) (by omega) (by intro x; (try dsimp only); have h1 := hcc x; (try simp only [kct_app, kct_cons, kct_nil] at h1 ⊢); (try simp only [kct, one] at h1 ⊢); omega) ?_; intro i s hs)
    | with_reducible (exact r_fail (by assumption) (by omega) (by omega))
    | with_reducible (exact r_failb (by assumption) (by omega) (by omega))
    | with_reducible (refine r_down (by assumption) (by omega) ?_; intro s hd hs)
    | with_reducible (refine r_up (by assumption) ?_; intro s hs)
    | with_reducible (refine r_call (sp_defined hL (n := n)) (by assumption) (by omega) (by omega) (by omega) (by omega) ?_; intro i s hs)
    | with_reducible (refine r_call ((sp_exprs hL n).defOf _) (by assumption) (by omega) (by omega) (by omega) (by omega) ?_; intro i s hs)
    | with_reducible (refine r_call M2 (by assumption) (by omega) (by omega) (by omega) (by omega) ?_; intro i s hs)
    | with_reducible (refine r_call (sp_names hL (n := n)) (by assumption) (by omega) (by omega) (by omega) (by omega) ?_; intro i s hs)
    | with_reducible (refine r_call M3 (by assumption) (by omega) (by omega) (by omega) (by omega) ?_; intro i s hs)
    | with_reducible (refine r_call (sp_params hL (n := n)) (by assumption) (by omega) (by omega) (by omega) (by omega) ?_; intro i s hs)
    | with_reducible (refine r_loop hL (I := (fun (_ : List Nat) => True)) (J := (fun (_ : Nat) => True)) (cur := (fun (l : List Nat) => l)) (out := (fun (r : Nat) => [r])) (by omega) (by assumption) (by omega) (trivial) (by intro x; (try dsimp only); have h1 := hcc x; (try simp only [kct_app, kct_cons, kct_nil] at h1 ⊢); (try simp only [kct, one] at h1 ⊢); omega) (fun a s p f hI hs hq hcc => r_tail ?_) (fun r s hJ hs => ?_))
    | with_reducible (refine r_loop hL (I := (fun (_ : List Nat) => True)) (J := (fun (_ : List Nat) => True)) (cur := (fun (l : List Nat) => l)) (out := (fun (l : List Nat) => l)) (by omega) (by assumption) (by omega) (trivial) (by intro x; (try dsimp only); have h1 := hcc x; (try simp only [kct_app, kct_cons, kct_nil] at h1 ⊢); (try simp only [kct, one] at h1 ⊢); omega) (fun a s p f hI hs hq hcc => r_tail ?_) (fun r s hJ hs => ?_))
    ))
theorem sp_onlyDef {n : Nat} : Sp L n 7 (onlyDef L n) 1 (fun i => [i]) := (spD hL (n := n)).1
theorem sp_opSig {n : Nat} : Sp L n 4 (opSig L n) 1 (fun i => [i]) := (spD hL (n := n)).2.1
theorem sp_imports {n : Nat} : Sp L n 0 (imports L n) 1 (fun i => [i]) := (spD hL (n := n)).2.2.1
theorem sp_fix {n : Nat} : Sp L n 0 (fix L) 1 (fun i => [i]) := (spD hL (n := n)).2.2.2.1
theorem sp_data {n : Nat} : Sp L n 3 (data L n) 1 (fun i => [i]) := (spD hL (n := n)).2.2.2.2
set_option maxHeartbeats 16000000 in
theorem spE {n : Nat} : (Sp L n 5 (klass L n) 1 (fun i => [i])) ∧ (Sp L n 7 (instance_ L n) 1 (fun i => [i])) := by
  obtain ⟨M1, M2, M3⟩ := sp_types hL n
  refine ⟨?_, ?_⟩ <;> (intro T q b d p f s hs hq h0 h1 hn; (have hcc : ∀ x, kct [] x ≤ f x := fun x => hs.tr.nn x); (first | (unfold klass) | (unfold instance_ atype)); refine r_tail ?_; simp only [f_assoc, f_pure, f_ite]; repeat' (first
    | with_reducible (simp only [f_assoc, f_pure, f_ite])
    | with_reducible (exact r_pure (hs.conv (by omega) (by intro x; (try dsimp only); (first | done | ((try simp only [kct_app, kct_cons, kct_nil]); (first | done | ((try simp only [kct, one]); (first | done | omega))))))))
    | with_reducible (exact r_pure ⟨trivial, hs.conv (by omega) (by intro x; (try dsimp only); (first | done | ((try simp only [kct_app, kct_cons, kct_nil]); (first | done | ((try simp only [kct, one]); (first | done | omega))))))⟩)
    | with_reducible (refine r_ite (fun hc => ?_) (fun hc => ?_))
    | with_reducible (refine r_tok ?_)
    | with_reducible (refine r_is ?_)
    | with_reducible (refine r_key ?_)
    | with_reducible (refine r_bty ?_)
    | with_reducible (refine r_fun ?_)
    | with_reducible (refine r_next1 hL (by assumption) (by (try simp [isB, beginsType, begins] at hc); omega) ?_; intro s hs)
    | with_reducible (refine r_next0 hL (by assumption) ?_; intro s hs)
    | with_reducible (refine r_kind hL (by assumption) (by omega) (by omega) ?_; intro t s hs)
    | with_reducible (refine r_want hL (by assumption) (by omega) (by omega) ?_; intro t s hs)
    | with_reducible (refine r_put (by assumption) (by omega) (by intro x; (try dsimp only); have h1 := hcc x; (try simp only [kct_app, kct_cons, kct_nil] at h1 ⊢); (try simp only [kct, one] at h1 ⊢); omega) ?_; intro i s hs)
    | with_reducible (exact r_fail (by assumption) (by omega) (by omega))
    | with_reducible (exact r_failb (by assumption) (by omega) (by omega))
    | with_reducible (refine r_down (by assumption) (by omega) ?_; intro s hd hs)
    | with_reducible (refine r_up (by assumption) ?_; intro s hs)
    | with_reducible (refine r_call (sp_block hL (n := n) (rk := 5) (by omega) (sp_sig hL (n := n))) (by assumption) (by omega) (by omega) (by omega) (by omega) ?_; intro i s hs)
    | with_reducible (refine r_loop hL (I := (fun (_ : List Nat × Bool) => True)) (J := (fun (_ : List Nat) => True)) (cur := (fun (a : List Nat × Bool) => a.1)) (out := (fun (l : List Nat) => l)) (by omega) (by assumption) (by omega) (trivial) (by intro x; (try dsimp only); have h1 := hcc x; (try simp only [kct_app, kct_cons, kct_nil] at h1 ⊢); (try simp only [kct, one] at h1 ⊢); omega) (fun a s p f hI hs hq hcc => r_tail ?_) (fun r s hJ hs => ?_))
    | with_reducible (refine r_call M3 (by assumption) (by omega) (by omega) (by omega) (by omega) ?_; intro i s hs)
    | with_reducible (refine r_call (sp_preds hL (n := n)) (by assumption) (by omega) (by omega) (by omega) (by omega) ?_; intro i s hs)
    | with_reducible (refine r_call (sp_block hL (n := n) (rk := 7) (by omega) (sp_onlyDef hL (n := n))) (by assumption) (by omega) (by omega) (by omega) (by omega) ?_; intro i s hs)
    ))
theorem sp_klass {n : Nat} : Sp L n 5 (klass L n) 1 (fun i => [i]) := (spE hL (n := n)).1
theorem sp_instance {n : Nat} : Sp L n 7 (instance_ L n) 1 (fun i => [i]) := (spE hL (n := n)).2
set_option maxHeartbeats 4000000 in
theorem sp_decl {n : Nat} : Sp L n 8 (decl L n) 1 (fun i => [i]) := by
  intro T q b d p f s hs hq h0 h1 hn
  have hcc : ∀ x, kct [] x ≤ f x := fun x => hs.tr.nn x
  unfold decl
  refine r_tail ?_
  simp only [f_assoc, f_pure, f_ite]
  repeat' (first
    | with_reducible (simp only [f_assoc, f_pure, f_ite])
    | with_reducible (exact r_pure (hs.conv (by omega) (by intro x; (try dsimp only); (first | done | ((try simp only [kct_app, kct_cons, kct_nil]); (first | done | ((try simp only [kct, one]); (first | done | omega))))))))
    | with_reducible (exact r_pure ⟨trivial, hs.conv (by omega) (by intro x; (try dsimp only); (first | done | ((try simp only [kct_app, kct_cons, kct_nil]); (first | done | ((try simp only [kct, one]); (first | done | omega))))))⟩)
    | with_reducible (refine r_ite (fun hc => ?_) (fun hc => ?_))
    | with_reducible (refine r_tok ?_)
    | with_reducible (refine r_is ?_)
    | with_reducible (refine r_key ?_)
    | with_reducible (refine r_bty ?_)
    | with_reducible (refine r_fun ?_)
    | with_reducible (refine r_next1 hL (by assumption) (by (try simp [isB, beginsType, begins] at hc); omega) ?_; intro s hs)
    | with_reducible (refine r_next0 hL (by assumption) ?_; intro s hs)
    | with_reducible (refine r_kind hL (by assumption) (by omega) (by omega) ?_; intro t s hs)
    | with_reducible (refine r_want hL (by assumption) (by omega) (by omega) ?_; intro t s hs)
    | with_reducible (refine r_put (by assumption) (by omega) (by intro x; (try dsimp only); have h1 := hcc x; (try simp only [kct_app, kct_cons, kct_nil] at h1 ⊢); (try simp only [kct, one] at h1 ⊢); omega) ?_; intro i s hs)
    | with_reducible (exact r_fail (by assumption) (by omega) (by omega))
    | with_reducible (exact r_failb (by assumption) (by omega) (by omega))
    | with_reducible (refine r_down (by assumption) (by omega) ?_; intro s hd hs)
    | with_reducible (refine r_up (by assumption) ?_; intro s hs)
    | with_reducible (refine r_call (sp_exprs hL n).defn (by assumption) (by omega) (by omega) (by omega) (by omega) ?_; intro i s hs)
    | with_reducible (refine r_call (sp_imports hL (n := n)) (by assumption) (by omega) (by omega) (by omega) (by omega) ?_; intro i s hs)
    | with_reducible (refine r_call (sp_names hL (n := n)) (by assumption) (by omega) (by omega) (by omega) (by omega) ?_; intro i s hs)
    | with_reducible (refine r_call (sp_fix hL (n := n)) (by assumption) (by omega) (by omega) (by omega) (by omega) ?_; intro i s hs)
    | with_reducible (refine r_call (sp_data hL (n := n)) (by assumption) (by omega) (by omega) (by omega) (by omega) ?_; intro i s hs)
    | with_reducible (refine r_call (sp_block hL (n := n) (rk := 4) (by omega) (sp_opSig hL (n := n))) (by assumption) (by omega) (by omega) (by omega) (by omega) ?_; intro i s hs)
    | with_reducible (refine r_call (sp_klass hL (n := n)) (by assumption) (by omega) (by omega) (by omega) (by omega) ?_; intro i s hs)
    | with_reducible (refine r_call (sp_instance hL (n := n)) (by assumption) (by omega) (by omega) (by omega) (by omega) ?_; intro i s hs)
    )
end
end Go.Proofs.YtcjoapmodaioiaaGreatDoor
end
