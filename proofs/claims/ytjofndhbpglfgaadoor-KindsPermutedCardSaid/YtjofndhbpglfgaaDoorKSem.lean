/- kinds, in plain words: what a run asks, as a condition on the kinds of the slots. -/
import Derived.Test.YtjofndhbpglfgaaDoorKInfD
namespace Go.Proofs.YtjofndhbpglfgaaDoor
open Go.RowKit Go.Shelf

/-! ### Kinds that a state allows -/
structure KI (N : Nat) (s : St) : Prop where
  inv : Kinv s
  ran : Ran s.2
  len : s.1.length = N
  three : 3 ≤ N
  k0 : kOf s.2 (rt s.1 0) = 0
  k1 : kOf s.2 (rt s.1 1) = 1
  k2 : kOf s.2 (rt s.1 2) = 2
structure Sol (N : Nat) (s : St) (σ : Nat → Int) : Prop where
  ran : ∀ i, i < N → 0 ≤ σ i ∧ σ i ≤ 2
  rt : ∀ i, i < N → σ (Proofs.YtjofndhbpglfgaaDoor.rt s.1 i) = σ i
  kind : ∀ i, i < N → kOf s.2 (Proofs.YtjofndhbpglfgaaDoor.rt s.1 i) ≠ -1 → σ i = kOf s.2 (Proofs.YtjofndhbpglfgaaDoor.rt s.1 i)
theorem Sol.zero {N : Nat} {s : St} {σ : Nat → Int} (h : Sol N s σ) (k : KI N s) : σ 0 = 0 := by
  have := h.kind 0 (by have := k.three; omega) (by rw [k.k0]; decide)
  rw [k.k0] at this; exact this
theorem Sol.one {N : Nat} {s : St} {σ : Nat → Int} (h : Sol N s σ) (k : KI N s) : σ 1 = 1 := by
  have := h.kind 1 (by have := k.three; omega) (by rw [k.k1]; decide)
  rw [k.k1] at this; exact this
theorem Sol.two {N : Nat} {s : St} {σ : Nat → Int} (h : Sol N s σ) (k : KI N s) : σ 2 = 2 := by
  have := h.kind 2 (by have := k.three; omega) (by rw [k.k2]; decide)
  rw [k.k2] at this; exact this
theorem rt_rt {up : List Nat} (h : Uf up) {i : Nat} (hi : i < up.length) : rt up (rt up i) = rt up i := rt_eq (n := 0) ⟨rfl, h.rt_root hi⟩
/-- The kinds that are known, and v for the others. -/
noncomputable def canon (v : Int) (s : St) (i : Nat) : Int := if kOf s.2 (rt s.1 i) = -1 then v else kOf s.2 (rt s.1 i)
theorem canon_sol {N : Nat} {s : St} (h : KI N s) {v : Int} (h0 : 0 ≤ v) (h2 : v ≤ 2) : Sol N s (canon v s) := by
  refine ⟨fun i _ => ?_, fun i hi => ?_, fun i hi hk => ?_⟩
  · unfold canon
    have := h.ran.kOf (rt s.1 i)
    split <;> omega
  · unfold canon
    rw [rt_rt h.inv.uf (by rw [h.len]; exact hi)]
  · unfold canon; rw [if_neg hk]
theorem kOf_set_self {l : List Int} {i : Nat} (h : i < l.length) (x : Int) : kOf (l.set i x) i = x := by
  unfold kOf; rw [List.getD_eq_getElem?_getD, List.getElem?_set_self h]; rfl
theorem kOf_set_ne {l : List Int} {i j : Nat} (h : i ≠ j) (x : Int) : kOf (l.set i x) j = kOf l j := by
  unfold kOf; rw [List.getD_eq_getElem?_getD, List.getElem?_set_ne h, ← List.getD_eq_getElem?_getD]
theorem clash_false {a b : Int} (h : clash a b = false) : a = -1 ∨ b = -1 ∨ a = b := by
  unfold clash at h
  by_cases h1 : a = -1
  · exact .inl h1
  by_cases h2 : b = -1
  · exact .inr (.inl h2)
  by_cases h3 : a = b
  · exact .inr (.inr h3)
  simp [h1, h2, h3] at h
theorem clash_true {a b : Int} (h : clash a b = true) : a ≠ -1 ∧ b ≠ -1 ∧ a ≠ b := by
  unfold clash at h
  simpa [and_assoc] using h
theorem joinE_zero (up : List Nat) (kind : List Int) (i k : Nat) : joinE up kind i k = 0 ∨ (joinE up kind i k ≠ 0 ∧ rt up i ≠ rt up k ∧ clash (kOf kind (rt up i)) (kOf kind (rt up k)) = true) := by
  unfold joinE
  split
  · exact .inl rfl
  · split
    · rename_i h1 h2; exact .inr ⟨by decide, h1, h2⟩
    · exact .inl rfl
theorem join_no {N : Nat} {s : St} (_ : KI N s) {i k : Nat} (hi : i < N) (hk : k < N) (he : joinE s.1 s.2 i k ≠ 0) {σ : Nat → Int} (hs : Sol N s σ) : σ i ≠ σ k := by
  rcases joinE_zero s.1 s.2 i k with h0 | ⟨_, _, hc⟩
  · exact absurd h0 he
  · have hc' := clash_true hc
    rw [hs.kind i hi hc'.1, hs.kind k hk hc'.2.1]
    exact hc'.2.2
/-- A join: the state is as good as before, and allows what it allowed, where the two slots are alike. -/
theorem join_yes {N : Nat} {s : St} (h : KI N s) {i k : Nat} (hi : i < N) (hk : k < N) (he : joinE s.1 s.2 i k = 0) :
    KI N (joinU s.1 s.2 i k, joinK s.1 s.2 i k) ∧ ∀ σ, Sol N (joinU s.1 s.2 i k, joinK s.1 s.2 i k) σ ↔ Sol N s σ ∧ σ i = σ k := by
  have hl := h.len
  have hI := h.inv.join (i := i) (k := k) (by omega) (by omega)
  have hR := h.ran.join (up := s.1) i k
  have hL : (joinU s.1 s.2 i k).length = N := by rw [joinU_len]; exact hl
  by_cases hr : rt s.1 i = rt s.1 k
  · have e1 : joinU s.1 s.2 i k = s.1 := by unfold joinU; rw [if_pos (.inl hr)]
    have e2 : joinK s.1 s.2 i k = s.2 := by unfold joinK; rw [if_pos (.inl hr)]
    rw [e1, e2]
    exact ⟨h, fun σ => ⟨fun hs => ⟨hs, by rw [← hs.rt i hi, ← hs.rt k hk, hr]⟩, fun hs => hs.1⟩⟩
  · have hc : clash (kOf s.2 (rt s.1 i)) (kOf s.2 (rt s.1 k)) = false := by
      cases hq : clash (kOf s.2 (rt s.1 i)) (kOf s.2 (rt s.1 k))
      · rfl
      · unfold joinE at he
        rw [if_neg hr, if_pos hq] at he
        exact absurd he (by decide)
    have hn : ¬ (rt s.1 i = rt s.1 k ∨ clash (kOf s.2 (rt s.1 i)) (kOf s.2 (rt s.1 k)) = true) := by rw [hc]; simpa using hr
    have e1 : joinU s.1 s.2 i k = s.1.set (rt s.1 i) (rt s.1 k) := by unfold joinU; rw [if_neg hn]
    have e2 : joinK s.1 s.2 i k = s.2.set (rt s.1 k) (max (kOf s.2 (rt s.1 i)) (kOf s.2 (rt s.1 k))) := by unfold joinK; rw [if_neg hn]
    have hri := h.inv.uf.rt_root (i := i) (by omega)
    have hrk := h.inv.uf.rt_root (i := k) (by omega)
    have hrkl := h.inv.uf.rt_lt (i := k) (by omega)
    have hril := h.inv.uf.rt_lt (i := i) (by omega)
    have hRt : ∀ j, j < N → rt (s.1.set (rt s.1 i) (rt s.1 k)) j = if rt s.1 j = rt s.1 i then rt s.1 k else rt s.1 j := fun j hj => rt_join h.inv.uf hri hrk hr (by omega)
    obtain ⟨a, ha⟩ : ∃ a, rt s.1 i = a := ⟨_, rfl⟩
    obtain ⟨b, hb⟩ : ∃ b, rt s.1 k = b := ⟨_, rfl⟩
    rw [ha, hb] at hr hc e2 hRt
    rw [ha] at hri hril
    rw [hb] at hrk hrkl
    rw [e1, e2] at hI
    rw [e2] at hR
    rw [ha, hb] at e1 hI
    have hcf := clash_false hc
    have hbl : b < s.2.length := by rw [h.inv.len]; exact hrkl
    have hra := h.ran.kOf a
    have hrb := h.ran.kOf b
    have hKb : kOf (s.2.set b (max (kOf s.2 a) (kOf s.2 b))) b = max (kOf s.2 a) (kOf s.2 b) := kOf_set_self hbl _
    have hKn : ∀ j, j ≠ b → kOf (s.2.set b (max (kOf s.2 a) (kOf s.2 b))) j = kOf s.2 j := fun j hj => kOf_set_ne (Ne.symm hj) _
    -- the kind of a slot behind the join
    have hKo : ∀ j, j < N → kOf s.2 (rt s.1 j) ≠ -1 → kOf (s.2.set b (max (kOf s.2 a) (kOf s.2 b))) (rt (s.1.set a b) j) = kOf s.2 (rt s.1 j) := fun j hj hk => by
      rw [hRt j hj]
      by_cases h1 : rt s.1 j = a
      · rw [if_pos h1, hKb, h1]
        rw [h1] at hk
        omega
      · rw [if_neg h1]
        by_cases h2 : rt s.1 j = b
        · rw [h2, hKb]
          rw [h2] at hk
          omega
        · rw [hKn _ h2]
    have h3 := h.three
    rw [e1, e2]
    have hLs : (s.1.set a b).length = N := by rw [List.length_set]; exact hl
    refine ⟨⟨hI, hR, hLs, h3, ?_, ?_, ?_⟩, fun σ => ⟨fun hs => ?_, fun ⟨hs, hik⟩ => ?_⟩⟩
    · show kOf _ (rt (s.1.set a b) 0) = 0
      rw [hKo 0 (by omega) (by rw [h.k0]; decide)]; exact h.k0
    · show kOf _ (rt (s.1.set a b) 1) = 1
      rw [hKo 1 (by omega) (by rw [h.k1]; decide)]; exact h.k1
    · show kOf _ (rt (s.1.set a b) 2) = 2
      rw [hKo 2 (by omega) (by rw [h.k2]; decide)]; exact h.k2
    · have hrs : ∀ j, j < N → σ (if rt s.1 j = a then b else rt s.1 j) = σ j := fun j hj => by
        have := hs.rt j hj
        dsimp only at this
        rw [hRt j hj] at this; exact this
      have haN : a < N := by omega
      have hbN : b < N := by omega
      have hraa : rt s.1 a = a := rt_eq (n := 0) ⟨rfl, hri⟩
      have hab : σ b = σ a := by have := hrs a haN; rwa [hraa, if_pos rfl] at this
      refine ⟨⟨hs.ran, fun j hj => ?_, fun j hj hk => ?_⟩, ?_⟩
      · have := hrs j hj
        by_cases h1 : rt s.1 j = a
        · rw [if_pos h1] at this; rw [h1, ← hab]; exact this
        · rw [if_neg h1] at this; exact this
      · have := hs.kind j hj (by dsimp only; rw [hKo j hj hk]; exact hk)
        dsimp only at this
        rw [hKo j hj hk] at this; exact this
      · have h1 := hrs i hi
        rw [ha, if_pos rfl] at h1
        have h2 := hrs k hk
        rw [hb] at h2
        split at h2
        · rename_i hx; exact absurd hx.symm hr
        · rw [← h1, ← h2]
    · have hab : σ a = σ b := by
        have h1 := hs.rt i hi
        have h2 := hs.rt k hk
        rw [ha] at h1; rw [hb] at h2
        rw [h1, h2]; exact hik
      have hrt : ∀ j, j < N → σ (rt (s.1.set a b) j) = σ j := fun j hj => by
        rw [hRt j hj]
        have h1 := hs.rt j hj
        split
        · rename_i hx; rw [← hab, ← hx]; exact h1
        · exact h1
      refine ⟨hs.ran, hrt, fun j hj hkk => ?_⟩
      dsimp only at hkk ⊢
      rw [hRt j hj] at hkk ⊢
      have hsa := hs.kind i hi
      have hsb := hs.kind k hk
      have hra' := hs.rt i hi
      have hrb' := hs.rt k hk
      rw [ha] at hsa hra'
      rw [hb] at hsb hrb'
      have hj' := hs.rt j hj
      have hkj := hs.kind j hj
      by_cases h1 : rt s.1 j = a
      · rw [if_pos h1] at hkk ⊢
        rw [hKb] at hkk ⊢
        rw [h1] at hj'
        omega
      · rw [if_neg h1] at hkk ⊢
        by_cases h2 : rt s.1 j = b
        · rw [h2, hKb] at hkk ⊢
          rw [h2] at hj'
          omega
        · rw [hKn _ h2] at hkk ⊢
          exact hkj hkk

/-! ### What a type asks -/
mutual
def SatV (env : ByteArray → Option (List Int)) (vals : List Int) : Ty → Int → Prop
  | .mk k n v l, c =>
    if k = 0 then vals[v.toNat]? = some c
    else if k = 1 then ∃ ks, env n = some ks ∧ c = 0 ∧ SatVs env vals l ks
    else if k = 2 then c = 0 ∧ SatVs env vals l [0, 2, 0]
    else if k = 3 then c = 0 ∧ SatVs env vals l [1]
    else if k = 5 then SatVs env vals l [0, c]
    else True
def SatVs (env : ByteArray → Option (List Int)) (vals : List Int) : List Ty → List Int → Prop
  | [], ks => ks = []
  | a :: r, ks => match ks with
    | [] => False
    | c :: cs => SatV env vals a c ∧ SatVs env vals r cs
end
theorem satV_eq (env : ByteArray → Option (List Int)) (vals : List Int) (t : Ty) (c : Int) : SatV env vals t c =
    (if t.kind = 0 then vals[t.var.toNat]? = some c
    else if t.kind = 1 then ∃ ks, env t.name = some ks ∧ c = 0 ∧ SatVs env vals t.args ks
    else if t.kind = 2 then c = 0 ∧ SatVs env vals t.args [0, 2, 0]
    else if t.kind = 3 then c = 0 ∧ SatVs env vals t.args [1]
    else if t.kind = 5 then SatVs env vals t.args [0, c]
    else True) := by
  cases t
  rw [SatV]; rfl
-- Is an argument of a constructor a row somewhere?
mutual
def rowInP : Ty → Bool
  | .mk k _ _ l => rowInPs k l
def rowInPs (k : Int) : List Ty → Bool
  | [] => false
  | a :: r => (decide (k = 1) && decide (3 < a.kind) || rowInP a) || rowInPs k r
end
theorem rowInPs_mem {k : Int} : ∀ {l : List Ty}, rowInPs k l = false → ∀ a ∈ l, (k = 1 → a.kind ≤ 3) ∧ rowInP a = false
  | [], _, a, ha => by simp at ha
  | b :: r, h, a, ha => by
    rw [rowInPs] at h
    simp only [Bool.or_eq_false_iff, Bool.and_eq_false_imp, decide_eq_true_eq, decide_eq_false_iff_not] at h
    rcases List.mem_cons.1 ha with rfl | ha
    · exact ⟨fun hk => by have := h.1.1 hk; omega, h.1.2⟩
    · exact rowInPs_mem h.2 a ha
/-- A list of types and one of slots. -/
theorem satVs_zip {env : ByteArray → Option (List Int)} {vals : List Int} (σ : Nat → Int) : ∀ (l : List Ty) (sl : List Nat), SatVs env vals l (sl.map σ) ↔ l.length = sl.length ∧ ∀ x ∈ l.zip sl, SatV env vals x.1 (σ x.2)
  | [], [] => by simp [SatVs]
  | [], c :: cs => by simp [SatVs]
  | a :: r, [] => by simp [SatVs]
  | a :: r, c :: cs => by
    rw [List.map_cons, SatVs]
    rw [satVs_zip σ r cs]
    simp only [List.length_cons, List.zip_cons_cons, List.mem_cons, forall_eq_or_imp]
    constructor
    · rintro ⟨h1, h2, h3⟩; exact ⟨by omega, h1, h3⟩
    · rintro ⟨h1, h2, h3⟩; exact ⟨h2, by omega, h3⟩

/-! ### Checked types -/
theorem chk_row {t : Ty} {left depth : Int} {row : Bool} (h : (chk t left row depth).1 = 0) : (0 ≤ t.kind ∧ t.kind ≤ 5) ∧ (t.kind = 0 ∨ row = decide (4 ≤ t.kind)) := by
  cases t with
  | mk k n v l =>
  rw [chk] at h
  split at h
  · exact absurd (show (2 : Int) = 0 from h) (by decide)
  split at h
  · exact absurd (show (9 : Int) = 0 from h) (by decide)
  rename_i h2
  split at h
  · exact absurd (show (3 : Int) = 0 from h) (by decide)
  split at h
  · exact absurd (show (9 : Int) = 0 from h) (by decide)
  rename_i h4
  refine ⟨⟨by show 0 ≤ k; omega, by show k ≤ 5; omega⟩, ?_⟩
  show k = 0 ∨ row = decide (4 ≤ k)
  by_cases h0 : k = 0
  · exact .inl h0
  · by_cases hr : row = decide (4 ≤ k)
    · exact .inr hr
    · exact absurd ⟨h0, hr⟩ h4
theorem chks_at (k : Int) : ∀ (l : List Ty) (i : Nat) (left depth : Int), (chks k l i left depth).1 = 0 → ∀ (j : Nat) (a : Ty), l[j]? = some a → ∃ left', (chk a left' (rowed k (i + j) a.kind) depth).1 = 0
  | [], _, _, _, _, j, a, ha => by simp at ha
  | b :: r, i, left, depth, h, j, a, ha => by
    rw [chks] at h
    split at h
    · rename_i hz
      cases j with
      | zero =>
        simp only [List.getElem?_cons_zero, Option.some.injEq] at ha
        subst ha
        exact ⟨left, hz⟩
      | succ j =>
        simp only [List.getElem?_cons_succ] at ha
        have := chks_at k r (i + 1) _ _ h j a ha
        rwa [show i + 1 + j = i + (j + 1) by omega] at this
    · rename_i hz
      exact absurd h hz
theorem okt_at {t : Ty} (h : Okt t) {j : Nat} {a : Ty} (ha : t.args[j]? = some a) : a.kind = 0 ∨ rowed t.kind j a.kind = decide (4 ≤ a.kind) := by
  obtain ⟨left, row, depth, h⟩ := h
  cases t with
  | mk k n v l =>
  rw [chk] at h
  split at h
  · exact absurd (show (2 : Int) = 0 from h) (by decide)
  split at h
  · exact absurd (show (9 : Int) = 0 from h) (by decide)
  split at h
  · exact absurd (show (3 : Int) = 0 from h) (by decide)
  split at h
  · exact absurd (show (9 : Int) = 0 from h) (by decide)
  split at h
  · exact absurd (show (4 : Int) = 0 from h) (by decide)
  obtain ⟨left', h'⟩ := chks_at k l 0 _ _ h j a ha
  rw [Nat.zero_add] at h'
  exact (chk_row h').2
theorem okt_low {t : Ty} (h : Okt t) {j : Nat} {a : Ty} (ha : t.args[j]? = some a) (hr : rowed t.kind j a.kind = false) : a.kind ≤ 3 := by
  rcases okt_at h ha with h0 | h0
  · omega
  · rw [hr] at h0
    have := of_decide_eq_false h0.symm
    omega
theorem okt_kind {t : Ty} (h : Okt t) : 0 ≤ t.kind ∧ t.kind ≤ 5 := by
  obtain ⟨left, row, depth, h⟩ := h
  exact (chk_row h).1
theorem rowInP_args {t : Ty} (h : rowInP t = false) : ∀ a ∈ t.args, (t.kind = 1 → a.kind ≤ 3) ∧ rowInP a = false := by
  cases t with
  | mk k n v l => rw [rowInP] at h; exact rowInPs_mem h

/-! ### What want does -/
def envS (datas : List DataSig) (first : List Nat) (σ : Nat → Int) (x : ByteArray) : Option (List Int) := (findD datas first x).map (·.map σ)
def Asks (N : Nat) (s : St) (r : Int) (s' : St) (P : (Nat → Int) → Prop) : Prop :=
  (r = 0 → KI N s' ∧ ∀ σ, Sol N s' σ ↔ Sol N s σ ∧ P σ) ∧ (r ≠ 0 → ∀ σ, Sol N s σ → ¬ P σ)
theorem wantL_sem {N : Nat} {f : Ty → Nat → St → Option (Int × St)} {P : Ty × Nat → (Nat → Int) → Prop} : ∀ (ps : List (Ty × Nat)) (s : St) (r : Int) (s' : St), (∀ x ∈ ps, ∀ s r s', KI N s → f x.1 x.2 s = some (r, s') → Asks N s r s' (P x)) → KI N s → wantL f ps s = some (r, s') →
    Asks N s r s' (fun σ => ∀ x ∈ ps, P x σ)
  | [], s, r, s', _, h, e => by
    simp only [wantL, Option.some.injEq, Prod.mk.injEq] at e
    obtain ⟨rfl, rfl⟩ := e
    exact ⟨fun _ => ⟨h, fun σ => by simp⟩, fun h => absurd rfl h⟩
  | x :: ps, s, r, s', hf, h, e => by
    rw [wantL] at e
    split at e
    · cases e
    · rename_i r1 s1 h1
      have h2 := hf x (by simp) _ _ _ h h1
      split at e
      · rename_i hr
        simp only [Option.some.injEq, Prod.mk.injEq] at e
        obtain ⟨rfl, rfl⟩ := e
        exact ⟨fun h0 => absurd h0 hr, fun _ σ hs hp => h2.2 hr σ hs (hp x (by simp))⟩
      · rename_i hr
        have hr0 : r1 = 0 := by omega
        obtain ⟨hk, hsol⟩ := h2.1 hr0
        have h3 := wantL_sem ps s1 r s' (fun y hy => hf y (by simp [hy])) hk e
        refine ⟨fun h0 => ⟨(h3.1 h0).1, fun σ => ?_⟩, fun h0 σ hs hp => ?_⟩
        · rw [(h3.1 h0).2 σ, hsol σ]
          simp only [List.mem_cons, forall_eq_or_imp]
          exact ⟨fun ⟨⟨a, b⟩, c⟩ => ⟨a, b, c⟩, fun ⟨a, b, c⟩ => ⟨⟨a, b⟩, c⟩⟩
        · exact h3.2 h0 σ ((hsol σ).2 ⟨hs, hp x (by simp)⟩) (fun y hy => hp y (by simp [hy]))
theorem partsP_err {datas : List DataSig} {first : List Nat} {t : Ty} {slot : Nat} {e : Int} (h : partsP datas first t slot = .error e) (σ : Nat → Int) (vals : List Int) (c : Int) : e ≠ 0 ∧ ¬ SatV (envS datas first σ) vals t c := by
  unfold partsP at h
  rw [satV_eq]
  split at h
  · rename_i hk
    rw [if_neg (by omega), if_pos hk]
    split at h
    · rename_i hf
      refine ⟨by rw [← Except.error.inj h]; decide, ?_⟩
      rintro ⟨ks, he, _⟩
      unfold envS at he
      rw [hf] at he
      cases he
    · rename_i l' hf
      split at h
      · rename_i hne
        refine ⟨by rw [← Except.error.inj h]; decide, ?_⟩
        rintro ⟨ks, he, _, hs⟩
        unfold envS at he
        rw [hf] at he
        rw [← Option.some.inj he] at hs
        have := ((satVs_zip σ t.args l').1 hs).1
        omega
      · cases h
  · split at h
    · split at h <;> cases h
    · split at h
      · split at h <;> cases h
      · split at h
        · split at h <;> cases h
        · cases h
theorem partsP_ok {datas : List DataSig} {first : List Nat} {t : Ty} {slot : Nat} {ps : List (Ty × Nat)} (h : partsP datas first t slot = .ok ps) (hk0 : t.kind ≠ 0) (hsh : shape t) (σ : Nat → Int) (h0 : σ 0 = 0) (h1 : σ 1 = 1) (h2 : σ 2 = 2) (vals : List Int) :
    SatV (envS datas first σ) vals t (σ slot) ↔ (t.kind ≤ 3 → t.kind ≠ 4 → 1 ≤ t.kind → σ slot = 0) ∧ ∀ x ∈ ps, SatV (envS datas first σ) vals x.1 (σ x.2) := by
  have hz2 := hsh.2.1
  have hz3 := hsh.2.2.1
  have hz5 := hsh.2.2.2
  unfold partsP at h
  rw [satV_eq, if_neg hk0]
  by_cases k1 : t.kind = 1
  · rw [if_pos k1] at h ⊢
    split at h
    · cases h
    · rename_i l' hf
      split at h
      · cases h
      · rename_i hne
        rw [← Except.ok.inj h]
        unfold envS
        rw [hf]
        constructor
        · rintro ⟨ks, he, hc, hs⟩
          simp only [Option.map_some, Option.some.injEq] at he
          rw [← he] at hs
          exact ⟨fun _ _ _ => hc, ((satVs_zip σ t.args l').1 hs).2⟩
        · rintro ⟨hc, hs⟩
          exact ⟨_, rfl, hc (by omega) (by omega) (by omega), (satVs_zip σ t.args l').2 ⟨by omega, hs⟩⟩
  · rw [if_neg k1] at h ⊢
    by_cases k2 : t.kind = 2
    · rw [if_pos k2] at h ⊢
      obtain ⟨x, y, z, hl⟩ := len_three (hz2 k2)
      rw [hl] at h ⊢
      dsimp only at h
      rw [← Except.ok.inj h]
      simp only [SatVs, List.mem_cons, List.not_mem_nil, or_false, forall_eq_or_imp, forall_eq, h0, h2, and_true]
      constructor
      · rintro ⟨a, b⟩; exact ⟨fun _ _ _ => a, b⟩
      · rintro ⟨a, b⟩; exact ⟨a (by omega) (by omega) (by omega), b⟩
    · rw [if_neg k2] at h ⊢
      by_cases k3 : t.kind = 3
      · rw [if_pos k3] at h ⊢
        obtain ⟨x, hl⟩ : ∃ x, t.args = [x] := by
          have := hz3 k3
          match t.args, this with
          | [x], _ => exact ⟨x, rfl⟩
        rw [hl] at h ⊢
        dsimp only at h
        rw [← Except.ok.inj h]
        simp only [SatVs, List.mem_cons, List.not_mem_nil, or_false, forall_eq, h1, and_true]
        constructor
        · rintro ⟨a, b⟩; exact ⟨fun _ _ _ => a, b⟩
        · rintro ⟨a, b⟩; exact ⟨a (by omega) (by omega) (by omega), b⟩
      · rw [if_neg k3] at h ⊢
        by_cases k5 : t.kind = 5
        · rw [if_pos k5] at h ⊢
          obtain ⟨x, y, hl⟩ := len_two (hz5 k5)
          rw [hl] at h ⊢
          dsimp only at h
          rw [← Except.ok.inj h]
          simp only [SatVs, List.mem_cons, List.not_mem_nil, or_false, forall_eq_or_imp, forall_eq, h0, and_true]
          constructor
          · intro b; exact ⟨fun h => absurd h (by omega), b⟩
          · rintro ⟨_, b⟩; exact b
        · rw [if_neg k5] at h ⊢
          rw [← Except.ok.inj h]
          simp only [List.not_mem_nil, false_implies, implies_true, and_true, true_iff]
          intro a b c; omega

theorem partsP_row {datas : List DataSig} {first : List Nat} {t : Ty} {slot : Nat} {ps : List (Ty × Nat)} (h : partsP datas first t slot = .ok ps) (ho : Okt t) (hr : rowInP t = false) (hs : 3 < t.kind → slot = 1 ∨ slot = 2) :
    ∀ x ∈ ps, Okt x.1 ∧ rowInP x.1 = false ∧ (3 < x.1.kind → x.2 = 1 ∨ x.2 = 2) := by
  have hm := partsP_mem h
  have hsh := ho.shape
  suffices hq : ∀ x ∈ ps, 3 < x.1.kind → x.2 = 1 ∨ x.2 = 2 from fun x hx => ⟨ho.parts.2 _ (hm x hx), (rowInP_args hr _ (hm x hx)).2, hq x hx⟩
  unfold partsP at h
  by_cases k1 : t.kind = 1
  · exact fun x hx h3 => absurd ((rowInP_args hr _ (hm x hx)).1 k1) (by omega)
  · rw [if_neg k1] at h
    by_cases k2 : t.kind = 2
    · rw [if_pos k2] at h
      obtain ⟨x, y, z, hl⟩ := len_three (hsh.2.1 k2)
      rw [hl] at h
      dsimp only at h
      have h1 := okt_low (j := 0) (a := x) ho (by rw [hl]; rfl) (by rw [k2]; rfl)
      have h2 := okt_low (j := 2) (a := z) ho (by rw [hl]; rfl) (by rw [k2]; rfl)
      intro w hw h3
      rw [← Except.ok.inj h] at hw
      simp only [List.mem_cons, List.not_mem_nil, or_false] at hw
      rcases hw with rfl | rfl | rfl
      · exact absurd h1 (by dsimp only at h3; omega)
      · exact .inr rfl
      · exact absurd h2 (by dsimp only at h3; omega)
    · rw [if_neg k2] at h
      by_cases k3 : t.kind = 3
      · rw [if_pos k3] at h
        obtain ⟨x, hl⟩ : ∃ x, t.args = [x] := by
          have := hsh.2.2.1 k3
          match t.args, this with
          | [x], _ => exact ⟨x, rfl⟩
        rw [hl] at h
        dsimp only at h
        intro w hw h3
        rw [← Except.ok.inj h] at hw
        simp only [List.mem_cons, List.not_mem_nil, or_false] at hw
        subst hw
        exact .inl rfl
      · rw [if_neg k3] at h
        by_cases k5 : t.kind = 5
        · rw [if_pos k5] at h
          obtain ⟨x, y, hl⟩ := len_two (hsh.2.2.2 k5)
          rw [hl] at h
          dsimp only at h
          have h1 := okt_low (j := 0) (a := x) ho (by rw [hl]; rfl) (by rw [k5]; rfl)
          intro w hw h3
          rw [← Except.ok.inj h] at hw
          simp only [List.mem_cons, List.not_mem_nil, or_false] at hw
          rcases hw with rfl | rfl
          · exact absurd h1 (by dsimp only at h3; omega)
          · exact hs (by omega)
        · rw [if_neg k5] at h
          intro w hw
          rw [← Except.ok.inj h] at hw
          cases hw
theorem want_sem {datas : List DataSig} {first vars : List Nat} {N : Nat} (hsl : Slots datas first N) (hv : ∀ v ∈ vars, v < N) : ∀ (q : Nat) (t : Ty) (slot : Nat) (s : St) (r : Int) (s' : St), KI N s → slot < N → Okt t → rowInP t = false → (3 < t.kind → slot = 1 ∨ slot = 2) →
    wantP datas first vars q t slot s = some (r, s') → Asks N s r s' (fun σ => SatV (envS datas first σ) (vars.map σ) t (σ slot))
  | 0, _, _, _, _, _, _, _, _, _, _, e => by rw [wantP] at e; cases e
  | q + 1, t, slot, s, r, s', hk, hs, ho, hr, hrow, e => by
    rw [wantP, if_neg (fun hn => hn ho.shape)] at e
    by_cases k0 : t.kind = 0
    · rw [if_pos k0] at e
      have hv0 := ho.shape.1 k0
      split at e
      · rename_i hlt
        simp only [Option.some.injEq, Prod.mk.injEq] at e
        obtain ⟨rfl, rfl⟩ := e
        refine ⟨fun h => absurd h (by decide), fun _ σ _ hp => ?_⟩
        dsimp only at hp
        rw [satV_eq, if_pos k0, List.getElem?_eq_none (by rw [List.length_map]; omega)] at hp
        cases hp
      · rename_i hlt
        have hvl : t.var.toNat < vars.length := by omega
        obtain ⟨v, hve⟩ : ∃ v, vars[t.var.toNat]? = some v := ⟨_, List.getElem?_eq_getElem hvl⟩
        have hvN := hv v (List.mem_of_getElem? hve)
        have hvD : vars.getD t.var.toNat 0 = v := by rw [List.getD_eq_getElem?_getD, hve]; rfl
        rw [hvD] at e
        simp only [Option.some.injEq, Prod.mk.injEq] at e
        obtain ⟨rfl, rfl⟩ := e
        have hP : ∀ σ : Nat → Int, SatV (envS datas first σ) (vars.map σ) t (σ slot) ↔ σ v = σ slot := fun σ => by
          rw [satV_eq, if_pos k0, List.getElem?_map, hve]; simp
        refine ⟨fun h0 => ?_, fun h0 σ hsσ hp => join_no hk hvN hs h0 hsσ ((hP σ).1 hp)⟩
        obtain ⟨h1, h2⟩ := join_yes hk hvN hs h0
        exact ⟨h1, fun σ => by dsimp only; rw [h2 σ, hP σ]⟩
    · rw [if_neg k0] at e
      have hkd := okt_kind ho
      split at e
      · rename_i e1 he1
        simp only [Option.some.injEq, Prod.mk.injEq] at e
        obtain ⟨rfl, rfl⟩ := e
        exact ⟨fun h0 => absurd h0 (partsP_err he1 (fun _ => 0) [] 0).1, fun _ σ _ => (partsP_err he1 σ _ _).2⟩
      · rename_i ps hps
        have hprow := partsP_row hps ho hr hrow
        have hplt := partsP_lt hsl hk.three hs hps
        have hpok := fun σ (hsσ : Sol N s σ) => partsP_ok hps k0 ho.shape σ (hsσ.zero hk) (hsσ.one hk) (hsσ.two hk) (vars.map σ)
        -- the head
        have hhead : ((headP t slot s).1 ≠ 0 → ∀ σ, Sol N s σ → ¬ SatV (envS datas first σ) (vars.map σ) t (σ slot)) ∧
            ((headP t slot s).1 = 0 → KI N (headP t slot s).2 ∧ ∀ σ, Sol N (headP t slot s).2 σ ↔ Sol N s σ ∧ (t.kind ≤ 3 → t.kind ≠ 4 → 1 ≤ t.kind → σ slot = 0)) := by
          have h3 := hk.three
          by_cases hk3 : t.kind ≤ 3
          · have hE : headP t slot s = (joinE s.1 s.2 slot 0, joinU s.1 s.2 slot 0, joinK s.1 s.2 slot 0) := by unfold headP; rw [if_pos hk3]
            rw [hE]
            refine ⟨fun h0 σ hsσ hp => ?_, fun h0 => ?_⟩
            · have h1 := ((hpok σ hsσ).1 hp).1 hk3 (by omega) (by omega)
              exact join_no hk hs (by omega) h0 hsσ (by rw [h1, hsσ.zero hk])
            · obtain ⟨h1, h2⟩ := join_yes hk hs (k := 0) (by omega) h0
              refine ⟨h1, fun σ => ?_⟩
              rw [h2 σ]
              constructor
              · rintro ⟨a, b⟩; exact ⟨a, fun _ _ _ => by rw [b, a.zero hk]⟩
              · rintro ⟨a, b⟩; exact ⟨a, by rw [b hk3 (by omega) (by omega), a.zero hk]⟩
          · have hne : kOf s.2 (rt s.1 slot) ≠ 0 ∧ kOf s.2 (rt s.1 slot) ≠ -1 := by
              rcases hrow (by omega) with h | h
              · rw [h, hk.k1]; decide
              · rw [h, hk.k2]; decide
            have hE : headP t slot s = (0, s) := by unfold headP; rw [if_neg hk3, if_neg hne.1, if_neg hne.2]
            rw [hE]
            exact ⟨fun h0 => absurd rfl h0, fun _ => ⟨hk, fun σ => ⟨fun h => ⟨h, fun h' => absurd h' hk3⟩, fun h => h.1⟩⟩⟩
        split at e
        · rename_i hh
          simp only [Option.some.injEq] at e
          have e1 : (headP t slot s).1 = r := by rw [e]
          have e2 : (headP t slot s).2 = s' := by rw [e]
          exact ⟨fun h0 => absurd (e1.trans h0) hh, fun _ => hhead.1 hh⟩
        · rename_i hh
          have hh0 : (headP t slot s).1 = 0 := by omega
          obtain ⟨hk1, hsol1⟩ := hhead.2 hh0
          have hW := wantL_sem (P := fun x σ => SatV (envS datas first σ) (vars.map σ) x.1 (σ x.2)) ps _ r s' (fun x hx s r s' h1 h2 => want_sem hsl hv q x.1 x.2 s r s' h1 (hplt x hx) (hprow x hx).1 (hprow x hx).2.1 (hprow x hx).2.2 h2) hk1 e
          refine ⟨fun h0 => ⟨(hW.1 h0).1, fun σ => ?_⟩, fun h0 σ hsσ hp => ?_⟩
          · rw [(hW.1 h0).2 σ, hsol1 σ]
            constructor
            · rintro ⟨⟨a, b⟩, c⟩; exact ⟨a, (hpok σ a).2 ⟨b, c⟩⟩
            · rintro ⟨a, b⟩
              have := (hpok σ a).1 b
              exact ⟨⟨a, this.1⟩, this.2⟩
          · have := (hpok σ hsσ).1 hp
            exact hW.2 h0 σ ((hsol1 σ).2 ⟨hsσ, this.1⟩) this.2
/-- A run of tasks. -/
def TaskOK (datas : List DataSig) (first : List Nat) (σ : Nat → Int) (x : Task) : Prop := (chk x.2 4096 false 1).1 = 0 ∧ SatV (envS datas first σ) (x.1.map σ) x.2 0
theorem run_sem {datas : List DataSig} {first : List Nat} {N : Nat} (hsl : Slots datas first N) : ∀ (l : List Task) (s : St), KI N s → (∀ x ∈ l, (∀ v ∈ x.1, v < N) ∧ rowInP x.2 = false) →
    (∀ s', runT datas first l s = some s' → KI N s' ∧ ∀ σ, Sol N s' σ ↔ Sol N s σ ∧ ∀ x ∈ l, TaskOK datas first σ x) ∧ (runT datas first l s = none → ∀ σ, Sol N s σ → ¬ ∀ x ∈ l, TaskOK datas first σ x)
  | [], s, hk, _ => ⟨fun s' e => by
      rw [runT] at e
      obtain rfl := Option.some.inj e
      exact ⟨hk, fun σ => by simp⟩, fun e => by rw [runT] at e; cases e⟩
  | (v, t) :: r, s, hk, hx => by
    by_cases hc : (chk t 4096 false 1).1 = 0
    · obtain ⟨e, s1, hw⟩ := want_def datas first v hc s
      rw [runT_cons hc hw]
      have hlow : t.kind ≤ 3 := by
        rcases (chk_row hc).2 with h | h
        · omega
        · have := of_decide_eq_false h.symm; omega
      have hA := want_sem hsl (hx (v, t) (by simp)).1 _ t 0 s e s1 hk (by have := hk.three; omega) ⟨_, _, _, hc⟩ (hx (v, t) (by simp)).2 (fun h => by omega) hw
      by_cases he : e = 0
      · rw [if_neg (fun h => h he)]
        obtain ⟨hk1, hs1⟩ := hA.1 he
        have ih := run_sem hsl r s1 hk1 (fun y hy => hx y (by simp [hy]))
        have h0 : ∀ σ, Sol N s σ → (SatV (envS datas first σ) (v.map σ) t (σ 0) ↔ TaskOK datas first σ (v, t)) := fun σ hsσ => by
          rw [hsσ.zero hk]; exact ⟨fun h => ⟨hc, h⟩, fun h => h.2⟩
        refine ⟨fun s' e' => ⟨(ih.1 s' e').1, fun σ => ?_⟩, fun e' σ hsσ hp => ?_⟩
        · rw [(ih.1 s' e').2 σ, hs1 σ]
          simp only [List.mem_cons, forall_eq_or_imp]
          constructor
          · rintro ⟨⟨a, b⟩, c⟩; exact ⟨a, (h0 σ a).1 b, c⟩
          · rintro ⟨a, b, c⟩; exact ⟨⟨a, (h0 σ a).2 b⟩, c⟩
        · exact ih.2 e' σ ((hs1 σ).2 ⟨hsσ, (h0 σ hsσ).2 (hp _ (by simp))⟩) (fun y hy => hp y (by simp [hy]))
      · rw [if_pos he]
        refine ⟨fun s' e' => (by cases e'), fun _ σ hsσ hp => hA.2 he σ hsσ ?_⟩
        dsimp only
        rw [hsσ.zero hk]; exact (hp (v, t) (by simp)).2
    · rw [runT_bad hc]
      exact ⟨fun s' e' => (by cases e'), fun _ σ _ hp => hc (hp (v, t) (by simp)).1⟩
end Go.Proofs.YtjofndhbpglfgaaDoor
