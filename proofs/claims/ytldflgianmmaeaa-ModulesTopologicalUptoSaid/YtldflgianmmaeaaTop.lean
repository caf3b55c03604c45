/- modules.Order in plain Lean: what an order of the modules is, that there is none where there is a cycle, and that Cycle finds one where there is no order. -/
import Derived.Test.YtldflgianmmaeaaCycB
namespace Go.Proofs.Ytldflgianmmaeaa
open Go

section
variable {N : List Bt} {I : List (List Bt)}
theorem Chain.tail {a : Bt} : ∀ {l : List Bt}, Chain N I (a :: l) → Chain N I l
  | [], _ => trivial
  | _ :: _, h => h.2
theorem Chain.right : ∀ {p q : List Bt}, Chain N I (p ++ q) → Chain N I q
  | [], _, h => h
  | _ :: p, _, h => Chain.right (p := p) (Chain.tail h)
theorem Chain.left : ∀ {p q : List Bt}, Chain N I (p ++ q) → Chain N I p
  | [], _, _ => trivial
  | [_], _, _ => trivial
  | _ :: b :: p, _, h => ⟨h.1, Chain.left (p := b :: p) h.2⟩
theorem Chain.link : ∀ {p r : List Bt} {q : Bt}, Chain N I (p ++ q :: r) → p ≠ [] → q ∈ impOf N I (lastB p)
  | [], _, _, _, h => absurd rfl h
  | [_], _, _, h, _ => h.1
  | _ :: b :: p, r, q, h, _ => by
    have := Chain.link (p := b :: p) (r := r) (q := q) h.2 (by simp)
    simpa [lastB] using this
theorem Chain.join : ∀ {p q : List Bt} {x : Bt}, Chain N I (p ++ [x]) → Chain N I (x :: q) → Chain N I (p ++ x :: q)
  | [], _, _, _, h => h
  | [_], _, _, h, h' => ⟨h.1, h'⟩
  | _ :: b :: p, q, x, h, h' => ⟨h.1, Chain.join (p := b :: p) (q := q) (x := x) h.2 h'⟩

theorem split_dup {α : Type} [DecidableEq α] : ∀ (l : List α), ¬ l.Nodup → ∃ a x b d, l = a ++ x :: b ++ x :: d
  | [], h => absurd List.nodup_nil h
  | y :: l, h => by
    by_cases hy : y ∈ l
    · obtain ⟨b, d, e⟩ := List.append_of_mem hy
      exact ⟨[], y, b, d, by simp [e]⟩
    · obtain ⟨a, x, b, d, e⟩ := split_dup l (fun hn => h (List.nodup_cons.2 ⟨hy, hn⟩))
      exact ⟨y :: a, x, b, d, by simp [e]⟩

/-- A closed way, and one without a repetition. -/
theorem simple_of : ∀ (n : Nat) (x : Bt) (b : List Bt), b.length ≤ n → Chain N I (x :: b ++ [x]) → (∀ y ∈ x :: b, y ∈ N) → ∃ x b, Chain N I (x :: b ++ [x]) ∧ (x :: b).Nodup ∧ ∀ y ∈ x :: b, y ∈ N
  | 0, x, b, hb, h, hN => by
    have : b = [] := List.eq_nil_of_length_eq_zero (by omega)
    subst this
    exact ⟨x, [], h, by simp, hN⟩
  | n + 1, x, b, hb, h, hN => by
    by_cases hd : (x :: b).Nodup
    · exact ⟨x, b, h, hd, hN⟩
    · obtain ⟨a, y, b', d, e⟩ := split_dup _ hd
      have hl := congrArg List.length e
      simp at hl
      have e2 : x :: b ++ [x] = a ++ ((y :: b' ++ [y]) ++ (d ++ [x])) := by rw [e]; simp
      rw [e2] at h
      refine simple_of n y b' (by omega) (Chain.left (Chain.right h)) fun z hz => hN z ?_
      rw [e]
      rcases List.mem_cons.1 hz with rfl | hz
      · simp
      · simp [hz]

theorem min_of : ∀ (l : List Bt), l ≠ [] → ∃ m ∈ l, ∀ y ∈ l, leS m y = true
  | [], h => absurd rfl h
  | [x], _ => ⟨x, by simp, fun y hy => by rw [List.mem_singleton.1 hy]; exact leS_refl x⟩
  | x :: z :: l, _ => by
    obtain ⟨m, hm, hl⟩ := min_of (z :: l) (by simp)
    cases h : leS x m
    · refine ⟨m, List.mem_cons_of_mem _ hm, fun y hy => ?_⟩
      rcases List.mem_cons.1 hy with rfl | hy
      · exact leS_not h
      · exact hl y hy
    · refine ⟨x, by simp, fun y hy => ?_⟩
      rcases List.mem_cons.1 hy with rfl | hy
      · exact leS_refl _
      · have h1 := hl y hy
        unfold leS at *
        exact decide_eq_true (List.le_trans (of_decide_eq_true h) (of_decide_eq_true h1))
theorem leS_antisymm {a b : Bt} (h : leS a b = true) (h' : leS b a = true) : a = b := by
  unfold leS at *
  have := List.le_antisymm (of_decide_eq_true h) (of_decide_eq_true h')
  exact str_inj (by rw [ByteArray.toList_eq, ByteArray.toList_eq]; exact this)

/-- The same, its least name first. -/
theorem turned_of {x : Bt} {b : List Bt} (h : Chain N I (x :: b ++ [x])) (hd : (x :: b).Nodup) (hN : ∀ y ∈ x :: b, y ∈ N) :
    ∃ m w, Chain N I (m :: w ++ [m]) ∧ (m :: w).Nodup ∧ (∀ y ∈ m :: w, y ∈ N) ∧ ∀ y ∈ w, leS y m = false := by
  obtain ⟨m, hm, hl⟩ := min_of (x :: b) (by simp)
  obtain ⟨u, v, e⟩ := List.append_of_mem hm
  have hcl : ∀ (l : List Bt), (∀ y ∈ l, y ∈ x :: b) → (m :: l).Nodup → ∀ y ∈ l, leS y m = false := fun l h1 h2 y hy => by
    cases h3 : leS y m
    · rfl
    · have := leS_antisymm h3 (hl y (h1 y hy))
      subst this
      exact absurd hy (List.nodup_cons.1 h2).1
  cases u with
  | nil =>
    simp only [List.nil_append, List.cons.injEq] at e
    obtain ⟨rfl, rfl⟩ := e
    exact ⟨x, b, h, hd, hN, hcl b (fun y hy => by simp [hy]) hd⟩
  | cons x' u =>
    simp only [List.cons_append, List.cons.injEq] at e
    obtain ⟨rfl, rfl⟩ := e
    have e2 : x :: (u ++ m :: v) ++ [x] = (x :: u) ++ (m :: v ++ [x]) := by simp
    have e3 : x :: (u ++ m :: v) ++ [x] = (x :: u ++ [m]) ++ (v ++ [x]) := by simp
    have h1 : Chain N I (m :: v ++ [x]) := by rw [e2] at h; exact Chain.right h
    have h2 : Chain N I (x :: u ++ [m]) := by rw [e3] at h; exact Chain.left h
    have hp : (m :: (v ++ x :: u)).Perm (x :: (u ++ m :: v)) := by
      have : (m :: v ++ x :: u).Perm (x :: u ++ m :: v) := List.perm_append_comm
      simpa using this
    have hd2 : (m :: (v ++ x :: u)).Nodup := hp.symm.nodup hd
    refine ⟨m, v ++ x :: u, ?_, hd2, fun y hy => hN y (hp.mem_iff.1 hy), hcl _ (fun y hy => hp.mem_iff.1 (List.mem_cons_of_mem _ hy)) hd2⟩
    have := Chain.join (p := m :: v) (q := u ++ [m]) (x := x) h1 h2
    simpa using this

theorem reach_of {m : Bt} : ∀ (k : Nat) (here : List Bt) (x : Bt) (p : List Bt), x ∈ here → Chain N I (x :: p ++ [m]) → p.length + 1 ≤ k → reachB N I m k here = true
  | 0, _, _, _, _, _, h => absurd h (by omega)
  | k + 1, here, x, p, hx, hc, hk => by
    unfold reachB
    cases p with
    | nil =>
      have h1 : m ∈ normB (here.flatMap (impOf N I)) := mem_normB.2 (List.mem_flatMap.2 ⟨x, hx, hc.1⟩)
      rw [isIn_iff.2 h1, Bool.true_or]
    | cons z p =>
      have h1 : z ∈ normB (here.flatMap (impOf N I)) := mem_normB.2 (List.mem_flatMap.2 ⟨x, hx, hc.1⟩)
      rw [reach_of k _ z p h1 hc.2 (by simp at hk; omega), Bool.or_true]
theorem tryN_ne {f : List Bt → Option (List Bt)} {way : List Bt} {y : Bt} (h1 : leS y (headB way) = false) (h2 : isIn way y = false) (h3 : f (way ++ [y]) ≠ none) : ∀ {l : List Bt}, y ∈ l → tryN f way l ≠ none
  | [], h => by simp at h
  | z :: l, h => by
    unfold tryN
    split
    · rename_i hz
      rcases List.mem_cons.1 h with rfl | h
      · rw [h1, h2] at hz; cases hz
      · exact tryN_ne h1 h2 h3 h
    · rcases List.mem_cons.1 h with rfl | h
      · cases hf : f (way ++ [y]) with
        | none => exact absurd hf h3
        | some c => simp
      · have := tryN_ne h1 h2 h3 h
        cases f (way ++ [z]) <;> simp [this]
theorem walkP_ne {m : Bt} {w : List Bt} (hc : Chain N I (m :: w ++ [m])) (hd : (m :: w).Nodup) (hl : ∀ y ∈ w, leS y m = false) : ∀ (d : Nat) (p rest : List Bt), p ++ rest = w → rest.length = d → walkP N I d (m :: p) ≠ none
  | 0, p, rest, e, hr => by
    have : rest = [] := List.eq_nil_of_length_eq_zero hr
    subst this
    rw [List.append_nil] at e
    subst e
    have h1 := Chain.link hc (by simp)
    unfold walkP
    rw [if_pos (isIn_iff.2 (mem_sortB.2 (show headB (m :: p) ∈ _ from h1)))]
    simp
  | d + 1, p, [], _, hr => by simp at hr
  | d + 1, p, y :: rest, e, hr => by
    subst e
    have e2 : m :: (p ++ y :: rest) ++ [m] = (m :: p) ++ y :: (rest ++ [m]) := by simp
    rw [e2] at hc
    have h1 := Chain.link hc (by simp)
    have h2 : Chain N I (lastB (m :: p) :: (y :: rest) ++ [m]) := ⟨h1, Chain.right hc⟩
    have hy := hl y (by simp)
    unfold walkP
    rw [show headB (m :: p) = m from rfl, reach_of (d + 2) [lastB (m :: p)] _ (y :: rest) (by simp) h2 (by simp at hr ⊢; omega), if_pos rfl]
    refine tryN_ne hy ?_ ?_ (mem_sortB.2 h1)
    · rw [isIn_no]
      intro hin
      have hd2 : ((m :: p) ++ y :: rest).Nodup := hd
      exact (List.nodup_append.1 hd2).2.2 y hin y (by simp) rfl
    · rw [← e2] at hc
      exact walkP_ne (w := p ++ y :: rest) hc hd hl d (p ++ [y]) rest (by simp) (by simpa using hr)
theorem tryS_ne {d : Nat} {s : Bt} (h : walkP N I d [s] ≠ none) : ∀ {l : List Bt}, s ∈ l → tryS N I d l ≠ none
  | [], h => by simp at h
  | z :: l, hs => by
    unfold tryS
    rcases List.mem_cons.1 hs with rfl | hs
    · cases hf : walkP N I d [s] with
      | none => exact absurd hf h
      | some c => simp
    · have := tryS_ne h hs
      cases walkP N I d [z] <;> simp [this]
theorem cycF_ne {d' : Nat} (h : tryS N I d' (sortB N) ≠ none) : ∀ (k d : Nat), d ≤ d' → d' < d + k → cycF N I k d ≠ none
  | 0, d, h1, h2 => by omega
  | k + 1, d, h1, h2 => by
    unfold cycF
    by_cases e : d = d'
    · subst e
      cases hf : tryS N I d (sortB N) with
      | none => exact absurd hf h
      | some c => simp
    · have := cycF_ne h k (d + 1) (by omega) (by omega)
      cases tryS N I d (sortB N) <;> simp [this]
theorem nodup_le (R S : List Bt) (hn : R.Nodup) (h : ∀ x ∈ R, x ∈ S) : R.length ≤ S.length := by
  have := length_le_of (R.map (·.data.toList)) (S.map (·.data.toList)) (by
    rw [List.nodup_iff_pairwise_ne, List.pairwise_map]
    exact List.Pairwise.imp (fun {a b} hab e => hab (str_inj (by rw [ByteArray.toList_eq, ByteArray.toList_eq]; exact e))) (List.nodup_iff_pairwise_ne.1 hn)) fun t ht => by
    obtain ⟨x, hx, rfl⟩ := List.mem_map.1 ht
    exact List.mem_map.2 ⟨x, h x hx, rfl⟩
  simpa using this
/-- Cycle finds a cycle where there is one. -/
theorem cycP_of {x : Bt} {b : List Bt} (h : Chain N I (x :: b ++ [x])) (hN : ∀ y ∈ x :: b, y ∈ N) : cycP N I ≠ none := by
  obtain ⟨x, b, h, hd, hN⟩ := simple_of b.length x b (Nat.le_refl _) h hN
  obtain ⟨m, w, h1, h2, h3, h4⟩ := turned_of h hd hN
  have h5 := walkP_ne h1 h2 h4 w.length [] w rfl rfl
  have h6 := nodup_le _ N h2 h3
  exact cycF_ne (tryS_ne h5 (mem_sortB.2 (h3 m (by simp)))) N.length 0 (Nat.zero_le _) (by simp at h6; omega)

theorem path_of {S : Bt → Prop} (hs : ∀ x, S x → ∃ m ∈ impOf N I x, S m) {x : Bt} (hx : S x) : ∀ k : Nat, ∃ p : List Bt, p.length = k + 1 ∧ Chain N I p ∧ (∀ y ∈ p, S y)
  | 0 => ⟨[x], rfl, trivial, fun y hy => by rw [List.mem_singleton.1 hy]; exact hx⟩
  | k + 1 => by
    obtain ⟨p, h1, h2, h3⟩ := path_of hs hx k
    have hne : p ≠ [] := by intro e; subst e; simp at h1
    have hl : lastB p ∈ p := by
      unfold lastB
      cases p with
      | nil => exact absurd rfl hne
      | cons a l => rw [List.getLastD_cons]; exact List.getLastD_mem_cons
    obtain ⟨m, hm, hS⟩ := hs _ (h3 _ hl)
    refine ⟨p ++ [m], by simp [h1], h2.snoc fun _ => hm, fun y hy => ?_⟩
    rcases List.mem_append.1 hy with hy | hy
    · exact h3 y hy
    · rw [List.mem_singleton.1 hy]; exact hS

/-- Where nothing more is ready, there is a cycle. -/
theorem cycP_stuck (hok : Okm N I) {done : List Bt} (hlt : done.length < N.length) (hno : ∀ x ∈ N, x ∉ done → ∃ m ∈ impOf N I x, m ∉ done) : cycP N I ≠ none := by
  have hx : ∃ x ∈ N, x ∉ done := by
    refine Classical.byContradiction fun h => ?_
    have := nodup_le N done hok.nodup fun x hx => Classical.byContradiction fun hd => h ⟨x, hx, hd⟩
    omega
  obtain ⟨x, hxN, hxd⟩ := hx
  obtain ⟨p, h1, h2, h3⟩ := path_of (S := fun x => x ∈ N ∧ x ∉ done) (fun x hx => by
    obtain ⟨m, hm, hd⟩ := hno x hx.1 hx.2
    exact ⟨m, hm, hok.imp_in x hx.1 m hm, hd⟩) ⟨hxN, hxd⟩ N.length
  have hd : ¬ p.Nodup := fun hd => by
    have := nodup_le p N hd fun y hy => (h3 y hy).1
    omega
  obtain ⟨a, y, b, d, e⟩ := split_dup p hd
  have e2 : p = a ++ ((y :: b ++ [y]) ++ d) := by rw [e]; simp
  rw [e2] at h2
  refine cycP_of (Chain.left (Chain.right h2)) fun z hz => (h3 z ?_).1
  rw [e]
  rcases List.mem_cons.1 hz with rfl | hz
  · simp
  · simp [hz]
end

/-- The name of a module. -/
def nm (N : List Bt) (i : Nat) : Bt := N.getD i ⟨#[]⟩
def nms (N : List Bt) (out : List Nat) : List Bt := out.map (nm N)
/-- Each module comes after those that it imports. -/
structure Topo (N : List Bt) (I : List (List Bt)) (out : List Nat) : Prop where
  lt : ∀ i ∈ out, i < N.length
  nodup : (nms N out).Nodup
  dep : ∀ (j i : Nat), out[j]? = some i → ∀ m ∈ I.getD i [], m ∈ nms N (out.take j)
theorem Topo.nil (N : List Bt) (I : List (List Bt)) : Topo N I [] := ⟨by simp, by simp [nms], by simp⟩
theorem Topo.push {N : List Bt} {I : List (List Bt)} {out : List Nat} (h : Topo N I out) {i : Nat} (hi : i < N.length) (h1 : nm N i ∉ nms N out) (h2 : ∀ m ∈ I.getD i [], m ∈ nms N out) : Topo N I (out ++ [i]) := by
  refine ⟨fun x hx => ?_, ?_, fun j k hj m hm => ?_⟩
  · rcases List.mem_append.1 hx with hx | hx
    · exact h.lt x hx
    · rw [List.mem_singleton.1 hx]; exact hi
  · unfold nms
    rw [List.map_append]
    refine List.nodup_append.2 ⟨h.nodup, by simp, fun x hx y hy e => ?_⟩
    rw [List.map_singleton, List.mem_singleton] at hy
    subst hy; subst e
    exact h1 hx
  · rcases Nat.lt_or_ge j out.length with hl | hl
    · rw [List.getElem?_append_left hl] at hj
      rw [List.take_append_of_le_length (Nat.le_of_lt hl)]
      exact h.dep j k hj m hm
    · rw [List.getElem?_append_right hl] at hj
      have hz : j - out.length = 0 := by
        have := (List.getElem?_eq_some_iff.1 hj).1
        simp at this; omega
      rw [hz] at hj
      obtain rfl : i = k := by simpa using hj
      rw [show j = out.length by omega, List.take_left']
      · exact h2 m hm
      · rfl
theorem nm_get {N : List Bt} {i : Nat} (h : i < N.length) : nm N i = N[i] := by
  unfold nm; rw [List.getD_eq_getElem?_getD, List.getElem?_eq_getElem h]; rfl
theorem impOf_nm {N : List Bt} {I : List (List Bt)} (hok : Okm N I) {i : Nat} (h : i < N.length) : impOf N I (nm N i) = I.getD i [] := by
  rw [nm_get h]
  obtain ⟨j, hj, e1, e3⟩ := idx_of (List.getElem_mem (l := N) h)
  have : j = i := (List.getElem?_inj hj hok.nodup).1 (e3.trans (List.getElem?_eq_getElem h).symm)
  subst this
  unfold impOf
  rw [e1, Int.toNat_natCast]
theorem Topo.sub {N : List Bt} {I : List (List Bt)} {out : List Nat} (h : Topo N I out) : ∀ x ∈ nms N out, x ∈ N := fun x hx => by
  obtain ⟨i, hi, rfl⟩ := List.mem_map.1 hx
  rw [nm_get (h.lt i hi)]
  exact List.getElem_mem _
theorem Topo.le {N : List Bt} {I : List (List Bt)} {out : List Nat} (h : Topo N I out) : out.length ≤ N.length := by
  have := nodup_le _ N h.nodup h.sub
  simpa [nms] using this
theorem Cyc.next {N : List Bt} {I : List (List Bt)} {c : List Bt} (h : Cyc N I c) : ∀ x ∈ c, ∃ y ∈ c, y ∈ impOf N I x := fun x hx => by
  obtain ⟨j, hj, rfl⟩ := List.mem_iff_getElem.1 hx
  by_cases h2 : j + 1 < c.length
  · exact ⟨c[j + 1], List.getElem_mem _, h.chain.get j _ _ (List.getElem?_eq_getElem hj) (List.getElem?_eq_getElem h2)⟩
  · have e1 : lastB c = c[j] := by
      unfold lastB
      rw [List.getLastD_eq_getLast?, List.getLast?_eq_getElem?, show c.length - 1 = j by omega, List.getElem?_eq_getElem hj]
      rfl
    have e2 : headB c ∈ c := by
      cases c with
      | nil => exact absurd rfl h.ne
      | cons a l => simp [headB]
    exact ⟨_, e2, by rw [← e1]; exact h.back⟩
/-- Where there is an order, there is no cycle. -/
theorem Topo.no_cyc {N : List Bt} {I : List (List Bt)} {out : List Nat} (hok : Okm N I) (h : Topo N I out) (hl : out.length = N.length) : cycP N I = none := by
  cases hc : cycP N I with
  | none => rfl
  | some c =>
    exfalso
    have hC := cycF_some hok.imp_in hc
    have hall : ∀ x ∈ N, x ∈ nms N out := fun x hx => Classical.byContradiction fun hno => by
      have := nodup_le (x :: nms N out) N (List.nodup_cons.2 ⟨hno, h.nodup⟩) fun y hy => by
        rcases List.mem_cons.1 hy with rfl | hy
        · exact hx
        · exact h.sub y hy
      simp [nms] at this
      omega
    have hno : ∀ (n j i : Nat), j ≤ n → out[j]? = some i → nm N i ∉ c := by
      intro n
      induction n with
      | zero =>
        intro j i hj e hi
        obtain ⟨y, hy, hm⟩ := hC.next _ hi
        rw [impOf_nm hok (h.lt i (List.mem_of_getElem? e))] at hm
        have := h.dep j i e y hm
        rw [show j = 0 by omega] at this
        simp [nms] at this
      | succ n ih =>
        intro j i hj e hi
        obtain ⟨y, hy, hm⟩ := hC.next _ hi
        rw [impOf_nm hok (h.lt i (List.mem_of_getElem? e))] at hm
        have h1 := h.dep j i e y hm
        obtain ⟨k, hk, rfl⟩ := List.mem_map.1 h1
        obtain ⟨q, hq, e3⟩ := List.mem_iff_getElem.1 hk
        rw [List.length_take] at hq
        refine ih q k (by omega) ?_ hy
        rw [List.getElem_take] at e3
        rw [List.getElem?_eq_getElem (by omega), e3]
    obtain ⟨x, hx⟩ := List.exists_mem_of_ne_nil c hC.ne
    obtain ⟨i, hi, rfl⟩ := List.mem_map.1 (hall x (hC.inN x hx))
    obtain ⟨q, hq, e3⟩ := List.mem_iff_getElem.1 hi
    exact hno q q i (Nat.le_refl _) (by rw [List.getElem?_eq_getElem hq, e3]) hx
end Go.Proofs.Ytldflgianmmaeaa
