/- The evaluator's operations on memory do what the model's do. No conditions. -/
import Derived.Test.YtdoddlkppkegnaaGreatDoorEvU
namespace Go.Proofs.YtdoddlkppkegnaaGreatDoor.Ev
open Go Go.RowKit
set_option linter.unusedSimpArgs false
set_option linter.unusedVariables false
section
variable {sy : Nat → Value} {N0 : Par} {W0 : World} {P : Program} {G : Nat} {e : Env} {m : M} {nx : Nat} {W : World}
theorem cCells_ok {t : TypeId} {v : AV} {u : Value} {K : AV → Bool} (h : (cCells P t).f v K = true) (hv : RV sy e v u) : ∃ l, K l = true ∧ RL sy e l u.cells.toList ∧ ∃ s, sizeAt P t = some s ∧ u.cells.size = s := by
  cases ha : isAgg P t with
  | none => simp only [cCells, ha, B1.f, undF_eq, infoF_eq, funF_eq] at h; cases h
  | some b =>
    cases hs : sizeAt P t with
    | none => cases b <;> simp only [cCells, ha, hs, B1.f, undF_eq, infoF_eq, funF_eq] at h <;> cases h
    | some s =>
      cases b with
      | true =>
        simp only [cCells, ha, hs, B1.f, undF_eq, infoF_eq, funF_eq] at h
        obtain ⟨l, rfl, h1⟩ := asAgg_yes h
        obtain ⟨h2, h3⟩ := ifB_yes h1
        cases hv with
        | agg hl =>
          refine ⟨l, h3, by simpa [Value.cells] using hl, s, rfl, ?_⟩
          have := beq_iff.1 h2
          rw [hl.cntA] at this
          simpa [Value.cells] using this
      | false =>
        cases h1 : Nat.beq s 1 with
        | false => simp only [cCells, ha, hs, h1, B1.f, undF_eq, infoF_eq, funF_eq] at h; cases h
        | true =>
          simp only [cCells, ha, hs, h1, B1.f, undF_eq, infoF_eq, funF_eq] at h
          obtain ⟨h2, h3⟩ := asCell_yes h
          have hone := hv.one h2
          have hcells : u.cells = #[u] := by cases u <;> first | rfl | cases hone
          refine ⟨_, h3, by rw [hcells]; exact .cons hv .eol, s, rfl, ?_⟩
          rw [hcells, beq_iff.1 h1]; rfl
theorem op_store (t : TypeId) (x v : Operand) : OpOk P sy N0 W0 G (cOp P G (.store t x v)) (.store t x v) := by
  simp only [cOp, BX.f, undF_eq, infoF_eq, funF_eq]
  intro call _ a m nx K KP hb e act W hG hst hops Y Z hK _ o ho
  have hb' : (cOpd G x).k a (fun x => (cOpd G v).k a fun v => asRef x fun p o => (cCells P t).f v fun l => writeK false m p o l fun m => K und m nx) = true := hb
  obtain ⟨xv, h1, h2⟩ := cOpd_ok hG hops (x := x) (by simp [Op.operands]) hb'
  obtain ⟨vv, h3, h4⟩ := cOpd_ok hG hops (x := v) (by simp [Op.operands]) h1
  obtain ⟨p, q, rfl, h5⟩ := asRef_yes h3
  obtain ⟨l, h6, h7, s, h8, h9⟩ := cCells_ok h5 h4
  generalize hc : act.eval x = cx at h2
  cases h2 with
  | ref hp =>
    obtain ⟨m', h10, h11, h12, h13, h14⟩ := writeK_ok h6 hst hp (fun h => by cases h) h7
    rename_i r base sz
    have hrun : (execOp act.eval o).run P W = .ok .skip (W.setCells r (base + q) (act.eval v).cells.toList) := by
      have := run_storeCells_cells (P := P) r (base + q) (act.eval v).cells.toList 0 W (by simpa using h13) (by simpa using h14) h12
      simp only [Nat.add_zero] at this
      simp [execOp, ho, hc, Instr.storeAt, Instr.sureAddr, storeVar, sizeAt_run h8, h9, this]
    rw [hrun]
    exact hK e und undef m' nx _ (Env.le_refl e) h11 RV.und h10
theorem op_panic (x : Operand) : OpOk P sy N0 W0 G (cOp P G (.panic x)) (.panic x) := by
  simp only [cOp, BX.f, undF_eq, infoF_eq, funF_eq]
  intro call _ a m nx K KP hb e act W hG hst hops Y Z _ hZ o ho
  have hb' : (cOpd G x).k a (fun v => asIfc v (fun t w => KP (.cons (.ifc t w) .eol) m nx) false) = true := hb
  obtain ⟨v, h1, h2⟩ := cOpd_ok hG hops (x := x) (by simp [Op.operands]) hb'
  rcases asIfc_yes h1 with ⟨t, w, rfl, h3⟩ | ⟨_, h3⟩
  · generalize hc : act.eval x = cx at h2
    cases h2 with
    | ifc hw =>
      rename_i u
      have hrun : (execOp act.eval o).run P W = .halt (.panic (.iface t u)) W := by simp [execOp, ho, hc, Instr.panic, goPanic]
      rw [hrun]
      exact hZ e _ [.iface t u] m nx W (Env.le_refl e) hst (.cons (.ifc hw) .eol) h3
  · cases h3
/-- What an operation that makes a block does. -/
def RawA (P : Program) (sy : Nat → Value) (G : Nat) (op : Op) (g : T AV → (T AV → Nat → (Nat → AV) → Bool) → Bool) : Prop :=
  ∀ a K, g a K = true → ∀ e act, (∀ g, g < G → ∃ sz, e g = some (g, 0, sz)) → Ops sy e a act op.operands → ∃ c n w, K c n w = true ∧ ∃ (cs : Array Value) (el : TypeId) (w' : Nat → Value), n ≤ cs.size ∧
      (n ≤ top → ∀ i, i < n → ∃ v, cs[i]? = some v ∧ RV sy e (T.get und c i) v ∧ (T.get und c i).cell = true) ∧ (∀ e' p r, e' p = some (r, 0, cs.size) → RV sy e' (w p) (w' r)) ∧
      ∀ (o : Oper) (W : World), o.op = op → (execOp act.eval o).run P W = .ok (.value (w' W.heap.size)) (W.alloc (.cells cs el))
/-- An operation that makes a block. -/
theorem xA_ok {op : Op} {g : T AV → (T AV → Nat → (Nat → AV) → Bool) → Bool} (h : RawA P sy G op g) : OpOk P sy N0 W0 G (xA g) op := by
  intro call _ a m nx K KP hb e act W hG hst hops Y Z hK _ o ho
  obtain ⟨c, n, w, h1, cs, el, w', h2, h3, h4, h5⟩ := h a (fun c n w => newK m nx c n fun p m nx => K (w p) m nx) hb e act hG hops
  obtain ⟨e', m', h6, h7, h8, h9⟩ := newF_ok (el := el) h1 hst h2 h3
  rw [h5 o W ho]
  exact hK e' _ _ m' _ _ h6 h9 (h4 _ _ _ h8) h7
theorem allCell_cons {x l : AV} (h : allCell (.cons x l) = true) : x.cell = true ∧ allCell l = true := asCell_yes (K := allCell l) h
theorem fillT_ok : ∀ (vs : List Value) (l : AV) (o : Nat) (c : T AV), RL sy e l vs → allCell l = true → o + vs.length ≤ 2 ^ 25 →
    let c' := foldAV (β := Nat → T AV → T AV) (fun _ c => c) (fun x r o c => T.setP und x o c fun c => r (Nat.succ o) c) l o c
    (∀ i, i < vs.length → ∃ v, vs[i]? = some v ∧ RV sy e (T.get und c' ((o + i))) v ∧ (T.get und c' ((o + i))).cell = true) ∧ ∀ i, i < 2 ^ 25 → (i < o ∨ o + vs.length ≤ i) → T.get und c' i = T.get und c i
  | [], l, o, c, hl, _, _ => by
    cases hl
    exact ⟨(fun i hi => by simp at hi), fun i _ _ => rfl⟩
  | v :: vs, l, o, c, hl, hcell, hb => by
    cases hl with
    | cons hx hl =>
      rename_i x l
      obtain ⟨h1, h2⟩ := allCell_cons hcell
      simp only [List.length_cons] at hb
      have ih := fillT_ok vs l (o + 1) (T.set und x o c) hl h2 (by omega)
      have e0 : foldAV (β := Nat → T AV → T AV) (fun _ c => c) (fun x r o c => T.setP und x o c fun c => r (Nat.succ o) c) (.cons x l) o c = foldAV (β := Nat → T AV → T AV) (fun _ c => c) (fun x r o c => T.setP und x o c fun c => r (Nat.succ o) c) l (o + 1) (T.set und x o c) :=
        T.setP_eq und x o c _
      rw [e0]
      obtain ⟨h5, h6⟩ := ih
      refine ⟨fun i hi => ?_, fun i hi1 hi2 => ?_⟩
      · cases i with
        | zero =>
          have := h6 o (by omega) (.inl (by omega))
          have e3 : (o + 0) = o := rfl
          refine ⟨v, rfl, ?_, ?_⟩ <;> rw [e3, this, T.get_set]
          · exact hx
          · exact h1
        | succ i =>
          obtain ⟨u, h7, h8, h9⟩ := h5 i (by simpa using hi)
          have e2 : o + (i + 1) = o + 1 + i := by omega
          exact ⟨u, by simpa using h7, by rw [e2]; exact h8, by rw [e2]; exact h9⟩
      · rw [h6 i hi1 (by simp only [List.length_cons] at hi2; omega), T.get_set_ne _ _ _ _ _ (fun eb => by
          have := bitsOf_inj (by omega) hi1 eb
          simp only [List.length_cons] at hi2
          omega)]
theorem zeroL_ok {t : TypeId} {z : AV} (h : zeroL P t = some z) : ∃ v, RL sy e z v.cells.toList ∧ allCell z = true ∧ ∀ W, (zeroValue t).run P W = .ok v W := by
  cases ha : isAgg P t with
  | none => simp only [zeroL, ha, undF_eq, infoF_eq, funF_eq] at h; cases h
  | some b =>
    cases hz : zeroA P t with
    | none => cases b <;> simp only [zeroL, ha, hz, undF_eq, infoF_eq, funF_eq] at h <;> cases h
    | some zv =>
      obtain ⟨v, h1, h2⟩ := zeroA_run (sy := sy) (e := e) hz
      cases b with
      | true =>
        cases zv with
        | agg l =>
          cases hc : allCell l with
          | false => simp only [zeroL, ha, hz, hc, undF_eq, infoF_eq, funF_eq] at h; cases h
          | true =>
            simp only [zeroL, ha, hz, hc, undF_eq, infoF_eq, funF_eq] at h
            cases h
            cases h1 with
            | agg hl => exact ⟨_, by simpa [Value.cells] using hl, hc, h2⟩
        | _ => simp only [zeroL, ha, hz, undF_eq, infoF_eq, funF_eq] at h; cases h
      | false =>
        cases hc : allCell (.cons zv .eol) with
        | false => simp only [zeroL, ha, hz, hc, undF_eq, infoF_eq, funF_eq] at h; cases h
        | true =>
          simp only [zeroL, ha, hz, hc, undF_eq, infoF_eq, funF_eq] at h
          cases h
          have hone := h1.one (allCell_cons hc).1
          have hcells : v.cells = #[v] := by cases v <;> first | rfl | cases hone
          exact ⟨v, by rw [hcells]; exact .cons h1 .eol, hc, h2⟩
theorem raw_alloc (t : TypeId) : (∃ g, cOp P G (.alloc t) = xA g ∧ RawA P sy G (.alloc t) g ∧ ∀ a, Det3 (g a)) ∨ cOp P G (.alloc t) = xNo := by
  cases hz : zeroL P t with
  | none => simp only [cOp, hz, BX.f, undF_eq, infoF_eq, funF_eq]; exact .inr (by trivial)
  | some z =>
    simp only [cOp, hz, BX.f, undF_eq, infoF_eq, funF_eq]
    refine .inl ⟨_, rfl, ?_, fun a => Det3.ret _ _ _⟩
    intro a K h e act hG hops
    obtain ⟨v, h1, h2, h3⟩ := zeroL_ok (sy := sy) (e := e) hz
    refine ⟨_, _, _, h, v.cells, t, fun r => .pointer (some ⟨r, 0, none⟩), ?_, fun ht i hi => ?_, fun e' p r hp => ?_, fun o W ho => ?_⟩
    · rw [h1.cntA]; simp
    · rw [h1.cntA] at ht hi
      obtain ⟨u, h7, h8, h9⟩ := (fillT_ok v.cells.toList z 0 .leaf h1 h2 (by rw [Nat.zero_add]; unfold top at ht; omega)).1 i hi
      rw [Nat.zero_add] at h8 h9
      exact ⟨u, by simpa using h7, h8, h9⟩
    · exact .ref (o := 0) hp
    · simp [execOp, ho, Instr.alloc, h3, newVar, newRow]
theorem op_alloc (t : TypeId) : OpOk P sy N0 W0 G (cOp P G (.alloc t)) (.alloc t) := by
  rcases raw_alloc (P := P) (sy := sy) (G := G) t with ⟨g, h1, h2, _⟩ | h
  · rw [h1]; exact xA_ok h2
  · rw [h]; exact xNo_ok
theorem raw_box (t : TypeId) (x : Operand) : (∃ g, cOp P G (.box t x) = xA g ∧ RawA P sy G (.box t x) g ∧ ∀ a, Det3 (g a)) ∨ cOp P G (.box t x) = xNo := by
  simp only [cOp, BX.f, undF_eq, infoF_eq, funF_eq]
  refine .inl ⟨_, rfl, ?_, fun a => Det3.of (Det.opd fun v => Det.cells fun l => Det2.bind (Det2.fill _ _ _) fun n c => Det.ret _)⟩
  intro a K h e act hG hops
  obtain ⟨v, h1, h2⟩ := cOpd_ok hG hops (x := x) (by simp [Op.operands]) h
  obtain ⟨l, h3, h4, s, h5, h6⟩ := cCells_ok h1 h2
  obtain ⟨c', h7, h8, h9⟩ := fillK_ok _ l 0 .leaf h4 h3
  refine ⟨_, _, _, h7, (act.eval x).cells, t, fun r => .pointer (some ⟨r, 0, none⟩), by simp, fun ht i hi => ?_, fun e' p r hp => .ref (o := 0) hp, fun o W ho => ?_⟩
  · have := (h9 (by unfold top at ht; omega)).1 i (by simpa using hi)
    simpa using this
  · simp [execOp, ho, Instr.box, newVar, newRow]
theorem op_box (t : TypeId) (x : Operand) : OpOk P sy N0 W0 G (cOp P G (.box t x)) (.box t x) := by
  rcases raw_box (P := P) (sy := sy) (G := G) t x with ⟨g, h1, h2, _⟩ | h
  · rw [h1]; exact xA_ok h2
  · rw [h]; exact xNo_ok
/-! ### append -/
theorem bytesCells_ok : ∀ (s : List Nat) (bs : List UInt8), bs.map UInt8.toNat = s → ∀ {K : AV → Bool}, cellsNs s K = true → ∃ l, K l = true ∧ RL sy e l (bs.map fun b => Value.int .u8 b.toNat)
  | [], bs, hb, K, h => by
    cases bs with
    | nil => exact ⟨.eol, h, .eol⟩
    | cons b bs => cases hb
  | n :: s, bs, hb, K, h => by
    cases bs with
    | nil => cases hb
    | cons b bs =>
      injection hb with h1 h2
      obtain ⟨l, h3, h4⟩ := bytesCells_ok s bs h2 (K := fun l => K (.cons (.int .u8 (.ofNat n)) l)) h
      refine ⟨_, h3, .cons ?_ h4⟩
      rw [← h1]; exact .int _ _
theorem Src.world {size : Nat} {tx : TypeId} {x : Value} {n : Nat} {news : List Value} {W' : World} (hk : (∃ e', P.underlying tx = some (.slice e')) ∨ P.underlying tx = some .string)
    (hl : ∀ w' : World, (Builtin.lenOf x).run P w' = .ok n w') (hc : ∀ W' : World, (∀ a, W'.cell? a = W.cell? a) → (Builtin.firstCells size n x).run P W' = .ok news.toArray W') (hn : news.length = n * size) (h1 : ∀ u ∈ news, u.oneCell' = true) : Src P size tx x n news W :=
  ⟨hk, hl, hc W (fun _ => rfl), hc W.drew (fun _ => rfl), hn, h1⟩
/-- What append and copy take. -/
theorem srcK_ok {es : Nat} {y : AV} {u : Value} {K : Nat → AV → Bool} (h : srcK es m y K = true) (hm : RM sy N0 e m nx W) (hy : RV sy e y u) : ∃ n l news, K n l = true ∧ RL sy e l news ∧ news.length = n * es ∧ (∀ u ∈ news, u.oneCell' = true) ∧
    (∀ w' : World, (Builtin.lenOf u).run P w' = .ok n w') ∧ (∀ W' : World, (∀ a, W'.cell? a = W.cell? a) → (Builtin.firstCells es n u).run P W' = .ok news.toArray W') ∧ ((∃ s, u = .string s ∧ es = 1) ∨ (∃ A k c, u = .slice A k c)) := by
  cases y with
  | str s =>
    obtain ⟨h1, h2⟩ := ifB_yes (b := Nat.beq es 1) (x := lenK s fun n => cellsNs s fun l => K n l) h
    obtain rfl := beq_iff.1 h1
    rw [lenK_eq] at h2
    cases hy with
    | str hs =>
      rename_i b
      obtain ⟨l, h3, h4⟩ := bytesCells_ok (sy := sy) (e := e) s b.data.toList hs h2
      have hsz := str_size hs
      refine ⟨_, l, byteCells b, h3, h4, by rw [byteCells_length, hsz, Nat.mul_one], fun u hu => ?_, fun w' => by simp [Builtin.lenOf, hsz], fun W' _ => by rw [← hsz]; exact firstCells_string b W', .inl ⟨b, rfl, rfl⟩⟩
      obtain ⟨_, _, rfl⟩ := List.mem_map.1 hu
      rfl
  | slc p o es' n c =>
    obtain ⟨h1, h2⟩ := ifB_yes (b := Nat.beq es' es) (x := frcN (Nat.mul n es) fun w => readK m p o w fun l => K n l) h
    obtain rfl := beq_iff.1 h1
    rw [frcN_eq] at h2
    cases hy with
    | slc hp hn hsz hcap =>
      obtain ⟨l, vs, h3, h4, h5, h6, h7, _⟩ := readK_ok h2 hm hp
      refine ⟨n, l, vs, h3, h4, h5, h7, fun _ => rfl, fun W' hW' => ?_, .inr ⟨_, _, _, rfl⟩⟩
      exact run_firstCells_some W' _ n _ _ _ vs h5 (fun j v hv => by rw [hW', Addr.add_lit]; exact h6 j v hv)
  | nil k => cases k with
    | s =>
      cases hy
      exact ⟨0, .eol, [], h, .eol, by simp, (fun u hu => by cases hu), (fun _ => rfl), (fun W' _ => run_firstCells_none W' es 0 0 0), .inr ⟨_, _, _, rfl⟩⟩
    | _ => cases h
  | _ => cases h
theorem grow_fits {need old bytes : Nat} (h : old < need) (hn : need ≤ 20000000) (hb : bytes ≤ 1000000) : Builtin.nextslicecap need old * bytes ≤ 281474976710656 :=
  growslice_fits h (by
    have : need * bytes ≤ 20000000 * 1000000 := Nat.mul_le_mul hn hb
    omega)
end
end Go.Proofs.YtdoddlkppkegnaaGreatDoor.Ev
