/- kinds, in plain words: the order of the data types does not matter. -/
import Derived.Test.YtjofndhbpglfgaaDoorKSem
namespace Go.Proofs.YtjofndhbpglfgaaDoor
open Go.RowKit Go.Shelf

/-! ### Names -/
def isN (x : ByteArray) (d : DataSig) : Bool := decide (d.name = x)
abbrev Names (l : List DataSig) : Prop := (l.map (·.name)).Nodup
theorem names_at {l : List DataSig} (h : Names l) {i j : Nat} {d e : DataSig} (hi : l[i]? = some d) (hj : l[j]? = some e) (hn : d.name = e.name) : i = j := by
  obtain ⟨h1, rfl⟩ := List.getElem?_eq_some_iff.1 hi
  obtain ⟨h2, rfl⟩ := List.getElem?_eq_some_iff.1 hj
  have hp := List.pairwise_iff_getElem.1 h
  rcases Nat.lt_trichotomy i j with hlt | heq | hgt
  · exact absurd (by rw [List.getElem_map, List.getElem_map]; exact hn) (hp i j (by simpa using h1) (by simpa using h2) hlt)
  · exact heq
  · exact absurd (by rw [List.getElem_map, List.getElem_map]; exact hn.symm) (hp j i (by simpa using h2) (by simpa using h1) hgt)
theorem pre_iff (datas : List DataSig) : PreTo datas datas.length ↔ Names datas ∧ ∀ d ∈ datas, 0 ≤ d.params ∧ d.params ≤ 16 := by
  constructor
  · intro h
    refine ⟨List.pairwise_iff_getElem.2 fun i j hi hj hij hn => ?_, h.par⟩
    have hj' : j < datas.length := by simpa using hj
    have := (h j _ hj' (List.getElem?_eq_getElem hj')).1
    unfold twiceAt at this
    have hi' : i < (datas.take j).length := by rw [List.length_take]; omega
    refine List.any_eq_false.1 this (datas.take j)[i] (List.getElem_mem hi') ?_
    have hn' : datas[i].name = datas[j].name := by simpa using hn
    rw [List.getElem_take, hn']
    simp
  · rintro ⟨h1, h2⟩ i d hi hd
    refine ⟨?_, h2 d (List.mem_of_getElem? hd)⟩
    unfold twiceAt
    rw [List.any_eq_false]
    intro y hy he
    obtain ⟨k, hk, rfl⟩ := List.getElem_of_mem hy
    rw [List.length_take] at hk
    rw [List.getElem_take] at he
    have hn := str_inj (of_decide_eq_true (by simpa using he) : datas[k].name.toList = d.name.toList)
    have := names_at h1 (List.getElem?_eq_getElem (by omega)) hd hn
    omega
theorem find_mem : ∀ {l : List DataSig}, Names l → ∀ d ∈ l, l.find? (isN d.name) = some d
  | [], _, d, hd => by simp at hd
  | e :: r, h, d, hd => by
    unfold Names at h
    rw [List.map_cons, List.nodup_cons] at h
    by_cases hn : e.name = d.name
    · rw [List.find?_cons_of_pos (by simp [isN, hn])]
      rcases List.mem_cons.1 hd with rfl | hd
      · rfl
      · exact absurd (List.mem_map_of_mem (f := (·.name)) hd) (by rw [← hn]; exact h.1)
    · rw [List.find?_cons_of_neg (by simp [isN, hn])]
      rcases List.mem_cons.1 hd with rfl | hd
      · exact absurd rfl hn
      · exact find_mem h.2 d hd
theorem find_perm {l l' : List DataSig} (hp : l.Perm l') (_ : Names l) (h' : Names l') (x : ByteArray) : l.find? (isN x) = l'.find? (isN x) := by
  cases hq : l.find? (isN x) with
  | some d =>
    have h1 := List.mem_of_find?_eq_some hq
    have h2 := List.find?_some hq
    have hx : d.name = x := by simpa [isN] using h2
    rw [← hx]
    exact (find_mem h' d (hp.mem_iff.1 h1)).symm
  | none =>
    cases hq' : l'.find? (isN x) with
    | none => rfl
    | some d =>
      have h1 := List.mem_of_find?_eq_some hq'
      have h2 := List.find?_some hq'
      exact absurd h2 (List.find?_eq_none.1 hq d (hp.mem_iff.2 h1))

/-! ### Slots and names -/
def Reads (l : List DataSig) (n : Nat) (τ : Nat → Int) (g : ByteArray → Nat → Int) : Prop := ∀ (j : Nat) (d : DataSig) (f : Nat), l[j]? = some d → (firstsOf l n)[j]? = some f → ∀ p, p < d.params.toNat → τ (f + p) = g d.name p
theorem findD_map {τ : Nat → Int} {g : ByteArray → Nat → Int} : ∀ (l : List DataSig) (n : Nat), Reads l n τ g → ∀ x, envS l (firstsOf l n) τ x = (l.find? (isN x)).map (fun d => (List.range d.params.toNat).map (g x))
  | [], n, _, x => by unfold envS; rw [findD_nil]; rfl
  | d :: r, n, h, x => by
    unfold envS
    rw [firstsOf, findD]
    by_cases hx : d.name = x
    · rw [if_pos hx, List.find?_cons_of_pos (by simp [isN, hx])]
      have h0 := h 0 d n rfl rfl
      simp only [Option.map_some, Option.some.injEq]
      unfold slotsOf
      rw [List.map_map]
      refine List.map_congr_left fun p hp => ?_
      rw [← hx]
      exact h0 p (List.mem_range.1 hp)
    · rw [if_neg hx, List.find?_cons_of_neg (by simp [isN, hx])]
      exact findD_map r (n + d.params.toNat) (fun j e f h1 h2 => h (j + 1) e f (by simpa using h1) (by simpa [firstsOf] using h2)) x
theorem findD_at : ∀ {l : List DataSig} (n : Nat), Names l → ∀ {j : Nat} {d : DataSig} {f : Nat}, l[j]? = some d → (firstsOf l n)[j]? = some f → findD l (firstsOf l n) d.name = some (slotsOf f d.params.toNat)
  | [], _, _, j, d, f, h, _ => by simp at h
  | e :: r, n, hn, j, d, f, h1, h2 => by
    have hn' := hn
    unfold Names at hn
    rw [List.map_cons, List.nodup_cons] at hn
    rw [firstsOf, findD]
    cases j with
    | zero =>
      simp only [List.getElem?_cons_zero, Option.some.injEq, firstsOf] at h1 h2
      rw [if_pos (by rw [h1]), h1, h2]
    | succ j =>
      have hne : ¬ e.name = d.name := fun he => by
        have := names_at hn' (i := 0) (j := j + 1) rfl h1 he
        omega
      rw [if_neg hne]
      simp only [List.getElem?_cons_succ, firstsOf] at h1 h2
      exact findD_at _ hn.2 h1 h2
theorem exists_tau (g : ByteArray → Nat → Int) : ∀ (l : List DataSig) (n : Nat), ∃ τ : Nat → Int, Reads l n τ g ∧ ∀ i, τ i = 0 ∨ ∃ d ∈ l, ∃ p, p < d.params.toNat ∧ τ i = g d.name p
  | [], n => ⟨fun _ => 0, fun j d f h => by simp at h, fun i => .inl rfl⟩
  | d :: r, n => by
    obtain ⟨τ, h1, h2⟩ := exists_tau g r (n + d.params.toNat)
    refine ⟨fun i => if i < n + d.params.toNat then (if n ≤ i then g d.name (i - n) else 0) else τ i, fun j e f hj hf p hp => ?_, fun i => ?_⟩
    · cases j with
      | zero =>
        simp only [List.getElem?_cons_zero, Option.some.injEq, firstsOf] at hj hf
        subst hj hf
        dsimp only
        rw [if_pos (by omega), if_pos (by omega), show n + p - n = p by omega]
      | succ j =>
        simp only [List.getElem?_cons_succ, firstsOf] at hj hf
        have := (firstsOf_fits r _ j e f hj hf).1
        dsimp only
        rw [if_neg (by omega)]
        exact h1 j e f hj hf p hp
    · dsimp only
      by_cases h3 : i < n + d.params.toNat
      · rw [if_pos h3]
        by_cases h4 : n ≤ i
        · rw [if_pos h4]
          exact .inr ⟨d, by simp, i - n, by omega, rfl⟩
        · rw [if_neg h4]; exact .inl rfl
      · rw [if_neg h3]
        rcases h2 i with h | ⟨e, he, p, hp, h⟩
        · exact .inl h
        · exact .inr ⟨e, by simp [he], p, hp, h⟩

/-! ### The start -/
abbrev start (datas : List DataSig) : St := (up0 (total datas), kind0 (total datas))
theorem rt0 {m i : Nat} (h : i < 3 + m) : rt (up0 m) i = i := rt_eq (n := 0) ⟨rfl, by
  show (List.range (3 + m))[i]? = some i
  rw [List.getElem?_eq_getElem (by simpa using h), List.getElem_range]⟩
theorem kOf0 (m i : Nat) : kOf (kind0 m) i = if i < 3 then (i : Int) else -1 := by
  unfold kOf kind0
  match i with
  | 0 => rfl
  | 1 => rfl
  | 2 => rfl
  | i + 3 =>
    rw [if_neg (by omega), List.getD_eq_getElem?_getD]
    rw [List.getElem?_append_right (by simp)]
    cases hq : (List.replicate m (-1 : Int))[i + 3 - [(0 : Int), 1, 2].length]? with
    | none => rfl
    | some v => exact (List.mem_replicate.1 (List.mem_of_getElem? hq)).2
theorem start_ki (m : Nat) : KI (3 + m) (up0 m, kind0 m) := by
  refine ⟨inv0 m, ran0 m, by simp, by omega, ?_, ?_, ?_⟩ <;> (dsimp only; rw [rt0 (by omega), kOf0]; rfl)
theorem start_sol {m : Nat} {σ : Nat → Int} : Sol (3 + m) (up0 m, kind0 m) σ ↔ (∀ i, i < 3 + m → 0 ≤ σ i ∧ σ i ≤ 2) ∧ ∀ i, i < 3 → σ i = (i : Int) := by
  constructor
  · intro h
    refine ⟨h.ran, fun i hi => ?_⟩
    have := h.kind i (by omega) (by dsimp only; rw [rt0 (by omega), kOf0, if_pos hi]; omega)
    dsimp only at this
    rw [rt0 (by omega), kOf0, if_pos hi] at this
    exact this
  · rintro ⟨h1, h2⟩
    refine ⟨h1, fun i hi => by dsimp only; rw [rt0 hi], fun i hi hk => ?_⟩
    dsimp only at hk ⊢
    rw [rt0 hi, kOf0] at hk ⊢
    split
    · rename_i h3; exact h2 i h3
    · rename_i h3; rw [if_neg h3] at hk; exact absurd rfl hk

/-! ### From one order to another -/
def AllOK (datas : List DataSig) (env : ByteArray → Option (List Int)) : Prop := ∀ d ∈ datas, ∀ c ∈ d.cons, ∀ t ∈ c.args, (chk t 4096 false 1).1 = 0 ∧ SatV env ((env d.name).getD []) t 0
theorem vars_env (datas : List DataSig) (first : List Nat) (σ : Nat → Int) (x : ByteArray) : (varsOf datas first x).map σ = (envS datas first σ x).getD [] := by
  unfold varsOf envS
  cases findD datas first x <;> rfl
theorem tasks_ok (datas : List DataSig) (first : List Nat) (σ : Nat → Int) : (∀ x ∈ tasks datas first datas, TaskOK datas first σ x) ↔ AllOK datas (envS datas first σ) := by
  constructor
  · intro h d hd c hc t ht
    have := h (varsOf datas first d.name, t) (List.mem_flatMap.2 ⟨d, hd, List.mem_flatMap.2 ⟨c, hc, List.mem_map.2 ⟨t, ht, rfl⟩⟩⟩)
    unfold TaskOK at this
    dsimp only at this
    rwa [vars_env] at this
  · intro h x hx
    obtain ⟨d, hd, hx⟩ := List.mem_flatMap.1 hx
    obtain ⟨c, hc, hx⟩ := List.mem_flatMap.1 hx
    obtain ⟨t, ht, rfl⟩ := List.mem_map.1 hx
    unfold TaskOK
    dsimp only
    rw [vars_env]
    exact h d hd c hc t ht
theorem AllOK.perm {datas datas' : List DataSig} {env : ByteArray → Option (List Int)} (hp : datas.Perm datas') (h : AllOK datas env) : AllOK datas' env := fun d hd => h d (hp.mem_iff.2 hd)
theorem translate {datas datas' : List DataSig} (hp : datas.Perm datas') (h : Names datas) (h' : Names datas') {σ : Nat → Int} (hs : Sol (3 + total datas) (start datas) σ) :
    ∃ σ', Sol (3 + total datas') (start datas') σ' ∧ envS datas' (firstsOf datas' 3) σ' = envS datas (firstsOf datas 3) σ := by
  obtain ⟨hs1, hs2⟩ := start_sol.1 hs
  let g : ByteArray → Nat → Int := fun x p => σ (((findD datas (firstsOf datas 3) x).getD []).getD p 0)
  have hg : Reads datas 3 σ g := fun j d f hj hf p hpp => by
    show _ = σ (((findD datas (firstsOf datas 3) d.name).getD []).getD p 0)
    rw [findD_at 3 h hj hf]
    simp [slotsOf, hpp]
  obtain ⟨τ, ht1, ht2⟩ := exists_tau g datas' 3
  have hr : Reads datas' 3 (fun i => if i < 3 then (i : Int) else τ i) g := fun j d f hj hf p hpp => by
    have := (firstsOf_fits datas' 3 j d f hj hf).1
    dsimp only
    rw [if_neg (by omega)]
    exact ht1 j d f hj hf p hpp
  refine ⟨fun i => if i < 3 then (i : Int) else τ i, start_sol.2 ⟨fun i hi => ?_, fun i hi => by rw [if_pos hi]⟩, ?_⟩
  · by_cases h3 : i < 3
    · rw [if_pos h3]; omega
    · rw [if_neg h3]
      rcases ht2 i with h0 | ⟨d, hd, p, hpp, hi'⟩
      · omega
      · obtain ⟨j, hj, rfl⟩ := List.getElem_of_mem (hp.mem_iff.2 hd)
        have hjd := List.getElem?_eq_getElem hj
        have hjf : j < (firstsOf datas 3).length := by simpa using hj
        have hjf' := List.getElem?_eq_getElem hjf
        have := hg j _ _ hjd hjf' p hpp
        rw [hi', ← this]
        have := firstsOf_fits datas 3 j _ _ hjd hjf'
        exact hs1 _ (by omega)
  · funext x
    rw [findD_map datas' 3 hr x, findD_map datas 3 hg x, find_perm hp h h' x]

/-! ### The answers -/
def rowedP (d : DataSig) : Bool := d.cons.any fun c => c.args.any rowInP
theorem not_rowed {datas : List DataSig} (h : datas.any rowedP = false) : ∀ d ∈ datas, ∀ c ∈ d.cons, ∀ t ∈ c.args, rowInP t = false := fun d hd c hc t ht => by
  have h1 := List.any_eq_false.1 h d hd
  rw [Bool.not_eq_true] at h1
  unfold rowedP at h1
  have h2 := List.any_eq_false.1 h1 c hc
  rw [Bool.not_eq_true] at h2
  have h3 := List.any_eq_false.1 h2 t ht
  rwa [Bool.not_eq_true] at h3
theorem run_all {datas : List DataSig} (hpre : PreTo datas datas.length) (hr : datas.any rowedP = false) :
    (∀ s', runT datas (firstsOf datas 3) (tasks datas (firstsOf datas 3) datas) (start datas) = some s' → KI (3 + total datas) s' ∧ ∀ σ, Sol (3 + total datas) s' σ ↔ Sol (3 + total datas) (start datas) σ ∧ AllOK datas (envS datas (firstsOf datas 3) σ)) ∧
      (runT datas (firstsOf datas 3) (tasks datas (firstsOf datas 3) datas) (start datas) = none → ∀ σ, Sol (3 + total datas) (start datas) σ → ¬ AllOK datas (envS datas (firstsOf datas 3) σ)) := by
  have hsl := slots0 hpre
  have := run_sem hsl (tasks datas (firstsOf datas 3) datas) (start datas) (start_ki _) (fun x hx => by
    obtain ⟨d, hd, hx⟩ := List.mem_flatMap.1 hx
    obtain ⟨c, hc, hx⟩ := List.mem_flatMap.1 hx
    obtain ⟨t, ht, rfl⟩ := List.mem_map.1 hx
    exact ⟨varsOf_lt hsl _, not_rowed hr d hd c hc t ht⟩)
  refine ⟨fun s' e => ⟨(this.1 s' e).1, fun σ => ?_⟩, fun e σ hs hp => this.2 e σ hs ((tasks_ok _ _ _).2 hp)⟩
  rw [(this.1 s' e).2 σ, tasks_ok]
theorem perm_rowed {datas datas' : List DataSig} (hp : datas.Perm datas') (h : datas.any rowedP = false) : datas'.any rowedP = false := by
  rw [List.any_eq_false] at h ⊢
  exact fun d hd => h d (hp.mem_iff.2 hd)
theorem perm_pre {datas datas' : List DataSig} (hp : datas.Perm datas') (h : PreTo datas datas.length) : PreTo datas' datas'.length := by
  rw [pre_iff] at h ⊢
  exact ⟨(hp.map _).nodup_iff.1 h.1, fun d hd => h.2 d (hp.mem_iff.2 hd)⟩
theorem ok_perm {datas datas' : List DataSig} (hp : datas.Perm datas') (hr : datas.any rowedP = false) {s : St} (h : InfOK datas s) : ∃ s', InfOK datas' s' := by
  obtain ⟨hl, hpre, hrun⟩ := h
  have hpre' := perm_pre hp hpre
  obtain ⟨hk, hs⟩ := (run_all hpre hr).1 s hrun
  have hc := (hs _).1 (canon_sol hk (v := 0) (by omega) (by omega))
  obtain ⟨σ', h1, h2⟩ := translate hp ((pre_iff _).1 hpre).1 ((pre_iff _).1 hpre').1 hc.1
  have hall := hc.2.perm hp
  rw [← h2] at hall
  cases hq : runT datas' (firstsOf datas' 3) (tasks datas' (firstsOf datas' 3) datas') (start datas') with
  | some s' => exact ⟨s', by rw [← hp.length_eq]; exact hl, hpre', hq⟩
  | none => exact absurd hall ((run_all hpre' (perm_rowed hp hr)).2 hq σ' h1)
theorem env_at {datas : List DataSig} (h : Names datas) {j f p : Nat} {d : DataSig} (hd : datas[j]? = some d) (hf : (firstsOf datas 3)[j]? = some f) (hpp : p < d.params.toNat) (σ : Nat → Int) : ((envS datas (firstsOf datas 3) σ d.name).getD []).getD p 0 = σ (f + p) := by
  unfold envS
  rw [findD_at 3 h hd hf]
  simp [slotsOf, hpp]
theorem kind_le {datas datas' : List DataSig} (hp : datas.Perm datas') (hr : datas.any rowedP = false) {s s' : St} (h : InfOK datas s) (h' : InfOK datas' s') {j j' f f' p : Nat} {d : DataSig} (hd : datas[j]? = some d) (hf : (firstsOf datas 3)[j]? = some f)
    (hd' : datas'[j']? = some d) (hf' : (firstsOf datas' 3)[j']? = some f') (hpp : p < d.params.toNat) (hc : kOf s.2 (rt s.1 (f + p)) ≠ -1) : kOf s'.2 (rt s'.1 (f' + p)) = kOf s.2 (rt s.1 (f + p)) := by
  obtain ⟨hl, hpre, hrun⟩ := h
  obtain ⟨hl', hpre', hrun'⟩ := h'
  have hn := ((pre_iff _).1 hpre).1
  have hn' := ((pre_iff _).1 hpre').1
  obtain ⟨hk, hs⟩ := (run_all hpre hr).1 s hrun
  obtain ⟨hk', hs'⟩ := (run_all hpre' (perm_rowed hp hr)).1 s' hrun'
  have key : ∀ v : Int, 0 ≤ v → v ≤ 2 → kOf s.2 (rt s.1 (f + p)) = canon v s' (f' + p) := fun v h0 h2 => by
    have hc' := (hs' _).1 (canon_sol hk' h0 h2)
    obtain ⟨σ, h3, h4⟩ := translate hp.symm hn' hn hc'.1
    have hall := hc'.2.perm hp.symm
    rw [← h4] at hall
    have hσ := (hs σ).2 ⟨h3, hall⟩
    have hfit := firstsOf_fits datas 3 j d f hd hf
    have e1 := hσ.kind (f + p) (by omega) hc
    have e2 := env_at hn hd hf hpp σ
    have e3 := env_at hn' hd' hf' hpp (canon v s')
    rw [h4, e3] at e2
    rw [← e1, ← e2]
  have k0 := key 0 (by omega) (by omega)
  have k1 := key 1 (by omega) (by omega)
  unfold canon at k0 k1
  split at k0
  · rename_i hx
    rw [if_pos hx] at k1
    omega
  · exact k0.symm
theorem rows_perm {datas datas' : List DataSig} (hp : datas.Perm datas') (hr : datas.any rowedP = false) {s s' : St} (h : InfOK datas s) (h' : InfOK datas' s') {j j' f f' : Nat} {d : DataSig} (hd : datas[j]? = some d) (hf : (firstsOf datas 3)[j]? = some f)
    (hd' : datas'[j']? = some d) (hf' : (firstsOf datas' 3)[j']? = some f') : kindRow s f d.params.toNat = kindRow s' f' d.params.toNat := by
  unfold kindRow
  refine List.map_congr_left fun p hpp => ?_
  have hpp := List.mem_range.1 hpp
  by_cases hc : kOf s.2 (rt s.1 (f + p)) = -1
  · by_cases hc' : kOf s'.2 (rt s'.1 (f' + p)) = -1
    · rw [hc, hc']
    · rw [kind_le hp.symm (perm_rowed hp hr) h' h hd' hf' hd hf hpp hc']
  · rw [kind_le hp hr h h' hd hf hd' hf' hpp hc]
/-- What the law asks of the two lists. -/
theorem kinds_perm {datas datas' : List DataSig} (hp : datas.Perm datas') {s s' : St} (h : InfOK datas s) (h' : InfOK datas' s') : ∀ k ∈ kindsOf datas (firstsOf datas 3) s, ∃ k', (kindsOf datas' (firstsOf datas' 3) s').find? (named k.name) = some k' ∧ (datas.any rowedP = false → k'.params = k.params) := fun k hk => by
  obtain ⟨x, hx, rfl⟩ := List.mem_map.1 hk
  obtain ⟨j, hj, rfl⟩ := List.getElem_of_mem hx
  have hj1 : j < datas.length := by rw [List.length_zip] at hj; omega
  have hj2 : j < (firstsOf datas 3).length := by simpa using hj1
  rw [List.getElem_zip]
  have hd := List.getElem?_eq_getElem hj1
  have hf := List.getElem?_eq_getElem hj2
  obtain ⟨d, hde⟩ : ∃ d, datas[j] = d := ⟨_, rfl⟩
  obtain ⟨f, hfe⟩ : ∃ f, (firstsOf datas 3)[j] = f := ⟨_, rfl⟩
  rw [hde] at hd
  rw [hfe] at hf
  rw [hde, hfe]
  have hdm' : d ∈ datas' := hp.mem_iff.1 (List.mem_of_getElem? hd)
  have hn' := ((pre_iff _).1 h'.2.1).1
  have hfind : ∃ k', (kindsOf datas' (firstsOf datas' 3) s').find? (named d.name) = some k' := by
    cases hq : (kindsOf datas' (firstsOf datas' 3) s').find? (named d.name) with
    | some k' => exact ⟨k', rfl⟩
    | none =>
      obtain ⟨i, hi, hie⟩ := List.getElem_of_mem hdm'
      have hi2 : i < (firstsOf datas' 3).length := by simpa using hi
      have hm : kindSig s' (datas'[i], (firstsOf datas' 3)[i]) ∈ kindsOf datas' (firstsOf datas' 3) s' := List.mem_map.2 ⟨_, List.mem_iff_getElem.2 ⟨i, by rw [List.length_zip]; omega, List.getElem_zip⟩, rfl⟩
      have := List.find?_eq_none.1 hq _ hm
      simp [named, kindSig, hie] at this
  obtain ⟨k', hk'⟩ := hfind
  refine ⟨k', hk', fun hr => ?_⟩
  have hm' := List.mem_of_find?_eq_some hk'
  have hnm := List.find?_some hk'
  obtain ⟨y, hy, rfl⟩ := List.mem_map.1 hm'
  obtain ⟨i, hi, rfl⟩ := List.getElem_of_mem hy
  have hi1 : i < datas'.length := by rw [List.length_zip] at hi; omega
  have hi2 : i < (firstsOf datas' 3).length := by simpa using hi1
  rw [List.getElem_zip] at hnm ⊢
  have hdi : datas'[i].name = d.name := of_decide_eq_true hnm
  obtain ⟨i2, hi2', hie⟩ := List.getElem_of_mem hdm'
  have heq : i = i2 := names_at hn' (List.getElem?_eq_getElem hi1) (List.getElem?_eq_getElem hi2') (by rw [hie]; exact hdi)
  subst heq
  have hd' : datas'[i]? = some d := by rw [List.getElem?_eq_getElem hi1, hie]
  have := rows_perm hp hr h h' hd hf hd' (List.getElem?_eq_getElem hi2)
  show kindRow s' _ (datas'[i]).params.toNat = kindRow s f d.params.toNat
  rw [this, hie]
end Go.Proofs.YtjofndhbpglfgaaDoor
