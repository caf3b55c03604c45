/- The evaluator reads, stores and makes blocks as the model does. No conditions. -/
import Derived.Test.YtdoddlkppkegnaaGreatDoorEvS
import Derived.Deep.AppendSrc
namespace Go.Proofs.YtdoddlkppkegnaaGreatDoor.Ev
open Go Go.RowKit
set_option linter.unusedSimpArgs false
set_option linter.unusedVariables false
section
variable {sy : Nat → Value} {N0 : Par} {W0 : World} {P : Program} {G : Nat} {e : Env} {m : M} {nx : Nat} {W : World}
theorem blkK_yes {p : Nat} {K : T AV → Nat → Nat → Bool → Bool} (h : blkK m p K = true) : ∃ B : AB, m.at p = some B ∧ K B.c B.n B.fz B.ro = true := by
  unfold blkK at h
  rw [T.getP_eq] at h
  cases hB : T.get none m p with
  | none => rw [hB] at h; cases h
  | some B => rw [hB] at h; exact ⟨B, hB, h⟩
theorem getN_eq {β : Type} (t : T AV) (o : Nat) (K : AV → β) : getN t o K = K (T.get und t o) := T.getP_eq _ _ _ _
theorem rdK_ok {c : T AV} {r base : Nat} : ∀ (n o : Nat) {K : AV → Bool}, rdK c n o K = true → (∀ i, o ≤ i → i < o + n → ∃ v, W.cell? ⟨r, base + i, none⟩ = some v ∧ RV sy e (T.get und c i) v ∧ (T.get und c i).cell = true) →
    ∃ l vs, K l = true ∧ RL sy e l vs ∧ vs.length = n ∧ (∀ j v, vs[j]? = some v → W.cell? ⟨r, base + o + j, none⟩ = some v) ∧ (∀ v ∈ vs, v.oneCell' = true) ∧ allCell l = true
  | 0, o, K, h, _ => ⟨.eol, [], h, .eol, rfl, (fun j v hv => by simp at hv), (fun v hv => by cases hv), rfl⟩
  | n + 1, o, K, h, hc => by
    have h' : getN c o (fun v => frcN (Nat.succ o) fun o => rdK c n o fun l => K (.cons v l)) = true := h
    rw [getN_eq, frcN_eq] at h'
    obtain ⟨v, h1, h2, h3⟩ := hc o (Nat.le_refl _) (by omega)
    obtain ⟨l, vs, h4, h5, h6, h7, h8, h9⟩ := rdK_ok n (o + 1) h' (fun i h1 h2 => hc i (by omega) (by omega))
    refine ⟨_, v :: vs, h4, .cons h2 h5, by simp [h6], fun j u hu => ?_, fun u hu => ?_, ?_⟩
    · cases j with
      | zero => simp at hu; subst hu; exact h1
      | succ j =>
        have := h7 j u (by simpa using hu)
        rw [← this]
        congr 2
        omega
    · rcases List.mem_cons.1 hu with rfl | hu
      · exact h2.one h3
      · exact h8 u hu
    · show asCell (T.get und c o) (allCell l) = true
      rw [h9]
      revert h3
      cases T.get und c o <;> intro h3 <;> first | rfl | cases h3
theorem readK_ok {p : Nat} {o n r base sz : Nat} {K : AV → Bool} (h : readK m p o n K = true) (hm : RM sy N0 e m nx W) (hp : e p = some (r, base, sz)) :
    ∃ l vs, K l = true ∧ RL sy e l vs ∧ vs.length = n ∧ (∀ j v, vs[j]? = some v → W.cell? ⟨r, base + o + j, none⟩ = some v) ∧ (∀ v ∈ vs, v.oneCell' = true) ∧ allCell l = true ∧ o + n ≤ sz := by
  obtain ⟨B, hB, h1⟩ := blkK_yes h
  obtain ⟨h2, h3⟩ := ifB_yes h1
  have h4 := ble_iff.1 h2
  have hH := hm.blk p B r base sz hB hp
  have h5 : o + n ≤ B.n := h4
  obtain ⟨l, vs, h6⟩ := rdK_ok (W := W) (r := r) (base := base) n o h3 (fun i _ h2 => hH.cells i (by omega))
  exact ⟨l, vs, h6.1, h6.2.1, h6.2.2.1, h6.2.2.2.1, h6.2.2.2.2.1, h6.2.2.2.2.2, by have := hH.n; omega⟩
theorem read1K_ok {p : Nat} {o r base sz : Nat} {K : AV → Bool} (h : read1K m p o K = true) (hm : RM sy N0 e m nx W) (hp : e p = some (r, base, sz)) :
    ∃ x v, K x = true ∧ RV sy e x v ∧ W.cell? ⟨r, base + o, none⟩ = some v := by
  obtain ⟨B, hB, h1⟩ := blkK_yes h
  obtain ⟨h2, h3⟩ := ifB_yes h1
  rw [getN_eq] at h3
  obtain ⟨v, h4, h5, _⟩ := (hm.blk p B r base sz hB hp).cells o (blt_iff.1 h2)
  exact ⟨_, v, h3, h5, h4⟩
/-- A variable is read. -/
theorem cLoad_ok {t : TypeId} {x : AV} {u : Value} {K : AV → Bool} (h : (cLoad P t).f m x K = true) (hm : RM sy N0 e m nx W) (hx : RV sy e x u) :
    ∃ a y v, u = .pointer (some a) ∧ K y = true ∧ RV sy e y v ∧ (loadVar t a).run P W = .ok v W := by
  cases ha : isAgg P t with
  | none => simp only [cLoad, ha, BR.f, undF_eq, infoF_eq, funF_eq] at h; cases h
  | some b =>
    cases hs : sizeAt P t with
    | none => cases b <;> simp only [cLoad, ha, hs, BR.f, undF_eq, infoF_eq, funF_eq] at h <;> cases h
    | some s =>
      cases b with
      | true =>
        simp only [cLoad, ha, hs, BR.f, undF_eq, infoF_eq, funF_eq] at h
        obtain ⟨p, o, rfl, h1⟩ := asRef_yes h
        cases hx with
        | ref hp =>
          rename_i r base sz
          obtain ⟨l, vs, h2, h3, h4, h5, _⟩ := readK_ok h1 hm hp
          refine ⟨_, _, _, rfl, h2, .agg h3, ?_⟩
          have := run_loadCells_list (P := P) W ⟨r, base + o, none⟩ vs (fun j v hv => by rw [Addr.add_lit]; exact h5 j v hv)
          rw [h4] at this
          simp [loadVar, isAgg_run ha, sizeAt_run hs, this]
      | false =>
        simp only [cLoad, ha, hs, BR.f, undF_eq, infoF_eq, funF_eq] at h
        obtain ⟨p, o, rfl, h1⟩ := asRef_yes h
        cases hx with
        | ref hp =>
          obtain ⟨y, v, h2, h3, h4⟩ := read1K_ok h1 hm hp
          exact ⟨_, _, _, rfl, h2, h3, by simp [loadVar, isAgg_run ha, h4]⟩
/-- An operation that only reads. -/
theorem xR_ok {op : Op} {g : T AV → M → (AV → Bool) → Bool}
    (h : ∀ a m K, g a m K = true → ∀ e act nx W, (∀ g, g < G → ∃ sz, e g = some (g, 0, sz)) → Ops sy e a act op.operands → RM sy N0 e m nx W → ∃ v v', K v = true ∧ RV sy e v v' ∧ ∀ (o : Oper), o.op = op → (execOp act.eval o).run P W = .ok (.value v') W) :
    OpOk P sy N0 W0 G (xR g) op := by
  intro call _ a m nx K KP hb e act W hG hst hops Y Z hK _ o ho
  obtain ⟨v, v', h1, h2, h3⟩ := h a m (fun v => K v m nx) hb e act nx W hG hops hst.rm
  rw [h3 o ho]
  exact hK e v v' m nx W (Env.le_refl e) hst h2 h1
theorem op_load (t : TypeId) (x : Operand) : OpOk P sy N0 W0 G (cOp P G (.load t x)) (.load t x) := by
  simp only [cOp, BX.f, undF_eq, infoF_eq, funF_eq]
  refine xR_ok ?_
  intro a m K h e act nx W hG hops hm
  obtain ⟨v, h1, h2⟩ := cOpd_ok hG hops (x := x) (by simp [Op.operands]) h
  obtain ⟨ad, y, u, h3, h4, h5, h6⟩ := cLoad_ok h1 hm h2
  exact ⟨y, u, h4, h5, fun o ho => by simp [execOp, ho, h3, Instr.loadAt, Instr.sureAddr, h6]⟩

/-! ### Cells laid one behind another -/
theorem setN_eq (t : T AV) (o : Nat) (v : AV) (K : T AV → Bool) : setN t o v K = K (T.set und v o t) := T.setP_eq und v o t K
theorem fillK_cons (x l : AV) (o : Nat) (c : T AV) (K : Nat → T AV → Bool) : fillK (.cons x l) o c K = asCell x (fillK l (o + 1) (T.set und x o c) K) := by
  show asCell x (setN c o x fun c => frcN (Nat.succ o) fun o => fillK l o c K) = _
  rw [setN_eq, frcN_eq]
theorem fillK_eol (o : Nat) (c : T AV) (K : Nat → T AV → Bool) : fillK .eol o c K = K o c := rfl
/-- What a filling leaves. -/
theorem fillK_ok : ∀ (vs : List Value) (l : AV) (o : Nat) (c : T AV) {K : Nat → T AV → Bool}, RL sy e l vs → fillK l o c K = true → ∃ c', K (o + vs.length) c' = true ∧ (∀ v ∈ vs, v.oneCell' = true) ∧
    (o + vs.length ≤ 2 ^ 25 → (∀ i, i < vs.length → ∃ v, vs[i]? = some v ∧ RV sy e (T.get und c' ((o + i))) v ∧ (T.get und c' ((o + i))).cell = true) ∧ ∀ i, i < 2 ^ 25 → (i < o ∨ o + vs.length ≤ i) → T.get und c' i = T.get und c i)
  | [], l, o, c, K, hl, h => by
    cases hl
    exact ⟨c, h, (fun v hv => by cases hv), fun _ => ⟨(fun i hi => by simp at hi), fun i _ _ => rfl⟩⟩
  | v :: vs, l, o, c, K, hl, h => by
    cases hl with
    | cons hx hl =>
      rw [fillK_cons] at h
      obtain ⟨hcell, h1⟩ := asCell_yes h
      obtain ⟨c', h2, h3, h4⟩ := fillK_ok vs _ (o + 1) _ hl h1
      have e1 : o + (v :: vs).length = o + 1 + vs.length := by simp; omega
      refine ⟨c', by rw [e1]; exact h2, fun u hu => ?_, fun hb => ?_⟩
      · rcases List.mem_cons.1 hu with rfl | hu
        · exact hx.one hcell
        · exact h3 u hu
      · obtain ⟨h5, h6⟩ := h4 (by omega)
        refine ⟨fun i hi => ?_, fun i hi1 hi2 => ?_⟩
        · cases i with
          | zero =>
            have := h6 o (by omega) (.inl (by omega))
            refine ⟨v, rfl, ?_, ?_⟩ <;> rw [Nat.add_zero, this, T.get_set]
            · exact hx
            · exact hcell
          | succ i =>
            obtain ⟨u, h7, h8, h9⟩ := h5 i (by simpa using hi)
            have e2 : o + (i + 1) = o + 1 + i := by omega
            exact ⟨u, by simpa using h7, by rw [e2]; exact h8, by rw [e2]; exact h9⟩
        · rw [h6 i hi1 (by omega), T.get_set_ne _ _ _ _ _ (fun eb => by
            have := bitsOf_inj (by omega) hi1 eb
            omega)]
theorem RM.congr {m' : M} (h : RM sy N0 e m nx W) (hm : ∀ q, m'.at q = m.at q) : RM sy N0 e m' nx W :=
  ⟨fun p B r base sz h1 h2 => h.blk p B r base sz (by rw [← hm]; exact h1) h2, fun p p' B B' x x' h1 h2 => h.inj p p' B B' x x' (by rw [← hm]; exact h1) (by rw [← hm]; exact h2), h.nm, h.lt, h.nb, fun p B hB => let ⟨h1, h2, h3⟩ := h.res p B hB; ⟨h1, by rw [hm]; exact h2, h3⟩⟩
/-- Cells are stored, in memory and in the world. -/
theorem RM.fill : ∀ (vs : List Value) (l : AV) (o : Nat) (m : M) (W : World) (B : AB) {p : Nat} {r base sz : Nat} {K : Nat → T AV → Bool}, RM sy N0 e m nx W → m.at p = some B → e p = some (r, base, sz) → o ≤ B.n → o + vs.length ≤ sz → RL sy e l vs → fillK l o B.c K = true →
    (o + vs.length ≤ top → ∃ c', K (o + vs.length) c' = true ∧ RM sy N0 e (T.set none (some ⟨c', max B.n (o + vs.length), B.fz, B.ro⟩) p m) nx (W.setCells r (base + o) vs))
  | [], l, o, m, W, B, p, r, base, sz, K, hm, hp, he, ho, hsz, hl, h, ht => by
    cases hl
    refine ⟨B.c, h, hm.congr fun q => ?_⟩
    by_cases hq : p = q
    · subst hq
      rw [M.at_same, hp]
      have : max B.n (o + ([] : List Value).length) = B.n := by simp; omega
      rw [this]
    · rw [M.at_set hq]
  | v :: vs, l, o, m, W, B, p, r, base, sz, K, hm, hp, he, ho, hsz, hl, h, ht => by
    cases hl with
    | cons hx hl =>
      rw [fillK_cons] at h
      obtain ⟨hcell, h1⟩ := asCell_yes h
      simp only [List.length_cons] at hsz ht
      have hm1 := hm.put hp he ho (by omega) (by omega) hx hcell
      have h2 := RM.fill vs _ (o + 1) _ _ ⟨T.set und _ o B.c, max B.n (o + 1), B.fz, B.ro⟩ hm1 M.at_same he (by show o + 1 ≤ max B.n (o + 1); omega) (by omega) hl h1 (by omega)
      obtain ⟨c', h3, h4⟩ := h2
      have e1 : o + (v :: vs).length = o + 1 + vs.length := by simp; omega
      refine ⟨c', by rw [e1]; exact h3, ?_⟩
      have e2 : W.setCells r (base + o) (v :: vs) = (W.setCell ⟨r, base + o, none⟩ v).setCells r (base + (o + 1)) vs := rfl
      rw [e2]
      refine h4.congr fun q => ?_
      by_cases hq : p = q
      · subst hq
        rw [M.at_same, M.at_same]
        have : max B.n (o + (v :: vs).length) = max (max B.n (o + 1)) (o + 1 + vs.length) := by simp; omega
        rw [this]
      · rw [M.at_set hq, M.at_set hq, M.at_set hq]
theorem Below.setCells {B : Nat} {a : World} {r : Nat} (hr : B ≤ r) : ∀ (vs : List Value) (o : Nat) (w : World), Below B a w → Below B a (w.setCells r o vs)
  | [], _, _, h => h
  | v :: vs, o, w, h => Below.setCells hr vs (o + 1) _ (h.setCell (p := ⟨r, o, none⟩) hr v)
theorem size_setCells (r : Nat) : ∀ (vs : List Value) (o : Nat) (w : World), (w.setCells r o vs).heap.size = w.heap.size
  | [], _, _ => rfl
  | v :: vs, o, w => (size_setCells r vs (o + 1) _).trans (World.size_setCell ..)
/-- A store. -/
theorem writeK_ok {g : Bool} {p : Nat} {o r base sz : Nat} {l : AV} {vs : List Value} {K : M → Bool} (h : writeK g m p o l K = true) (hst : St sy N0 W0 e m nx W) (he : e p = some (r, base, sz)) (hg : g = true → o + vs.length ≤ sz) (hl : RL sy e l vs) :
    ∃ m', K m' = true ∧ St sy N0 W0 e m' nx (W.setCells r (base + o) vs) ∧ (∀ v ∈ vs, v.oneCell' = true) ∧ (∀ j, j < vs.length → (W.cell? ⟨r, base + o + j, none⟩).isSome = true) ∧ (∀ j, j < vs.length → W.frozen? ⟨r, base + o + j, none⟩ = false) := by
  obtain ⟨B, hB, h1⟩ := blkK_yes h
  obtain ⟨hro, h2⟩ := ifB_no h1
  obtain ⟨hfz, h3⟩ := ifB_yes h2
  obtain ⟨ho, h4⟩ := ifB_yes h3
  have hfz' := ble_iff.1 hfz
  have ho' := ble_iff.1 ho
  have hH := hst.rm.blk p B r base sz hB he
  obtain ⟨c', h5, hone, _⟩ := fillK_ok vs l o B.c hl h4
  obtain ⟨h6, _⟩ := ifB_yes h5
  simp only [Bool.and_eq_true, Bool.or_eq_true] at h6
  have htop : o + vs.length ≤ top := ble_iff.1 h6.1
  have hsz : o + vs.length ≤ sz := by
    rcases h6.2 with hg' | hn
    · exact hg hg'
    · have := ble_iff.1 hn
      have := hH.n
      omega
  obtain ⟨c', h7, h8⟩ := RM.fill vs l o m W B hst.rm hB he ho' hsz hl h4 htop
  obtain ⟨_, h9⟩ := ifB_yes h7
  rw [frcN_eq, T.setP_eq] at h9
  refine ⟨_, h9, ⟨h8, Below.setCells (hH.own hro) _ _ _ hst.be, by rw [size_setCells]; exact hst.hN⟩, hone, fun j hj => ?_, fun j hj => ?_⟩
  · obtain ⟨v, hv⟩ := hH.there (o + j) (by omega)
    rw [Nat.add_assoc, hv]; rfl
  · rw [Nat.add_assoc]; exact hH.free hro (o + j) (by omega) (by omega)
theorem newF_yes {c : T AV} {n fz : Nat} {K : Nat → M → Nat → Bool} (h : newF m nx c n fz K = true) : nx ≤ top ∧ n ≤ top ∧ m.at nx = none ∧ K nx (T.set none (some ⟨c, n, fz, false⟩) nx m) (nx + 1) = true := by
  obtain ⟨h1, h2⟩ := ifB_yes h
  simp only [Bool.and_eq_true] at h1
  rw [frcN_eq, T.getP_eq] at h2
  cases hq : T.get none m nx with
  | some B => rw [hq] at h2; cases h2
  | none =>
    rw [hq] at h2
    have h3 : (T.setP none (some ⟨c, n, fz, false⟩) nx m fun m => frcN (Nat.succ nx) fun nx' => K nx m nx') = true := h2
    rw [T.setP_eq, frcN_eq] at h3
    exact ⟨ble_iff.1 h1.1, ble_iff.1 h1.2, hq, h3⟩
/-- A new block. -/
theorem newF_ok {c : T AV} {n fz : Nat} {K : Nat → M → Nat → Bool} (h : newF m nx c n fz K = true) (hst : St sy N0 W0 e m nx W) {cs : Array Value} {el : TypeId} (hle : n ≤ cs.size)
    (hc : n ≤ top → ∀ i, i < n → ∃ v, cs[i]? = some v ∧ RV sy e (T.get und c i) v ∧ (T.get und c i).cell = true) :
    ∃ e' m', e.le e' ∧ K nx m' (nx + 1) = true ∧ e' nx = some (W.heap.size, 0, cs.size) ∧ St sy N0 W0 e' m' (nx + 1) (W.alloc (.cells cs el)) := by
  obtain ⟨hnx, hn, _, h2⟩ := newF_yes h
  have hm := hst.rm.make hnx hst.hN (fz := fz) (el := el) hle hn (hc hn)
  exact ⟨_, _, Env.le_new (hst.rm.fresh hnx), h2, Env.new_same, ⟨hm, hst.be.alloc hst.hN _, Nat.le_of_lt (Nat.lt_of_le_of_lt hst.hN (size_alloc W _))⟩⟩
end
end Go.Proofs.YtdoddlkppkegnaaGreatDoor.Ev
