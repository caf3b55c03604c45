/- The evaluator makes slices as the model does. No conditions. -/
import Derived.Test.YtdoddlkppkegnaaGreatDoorEvY
namespace Go.Proofs.YtdoddlkppkegnaaGreatDoor.Ev
open Go Go.RowKit
set_option linter.unusedSimpArgs false
set_option linter.unusedVariables false
section
variable {sy : Nat → Value} {N0 : Par} {W0 : World} {P : Program} {G : Nat} {e : Env} {m : M} {nx : Nat} {W : World}
def TA (sy : Nat → Value) (e : Env) (c : T AV) (cells : Array Value) : Prop := ∀ i, i < cells.size → ∃ v, cells[i]? = some v ∧ RV sy e (T.get und c i) v ∧ (T.get und c i).cell = true
theorem get_putV : ∀ (vs : List Value) (o : Nat) (cs : Array Value) (j : Nat), o + vs.length ≤ cs.size → (putV vs o cs)[j]? = if o ≤ j ∧ j < o + vs.length then vs[j - o]? else cs[j]?
  | [], o, cs, j, _ => by rw [if_neg (by simp)]; rfl
  | v :: vs, o, cs, j, h => by
    simp only [List.length_cons] at h ⊢
    rw [putV, get_putV vs (o + 1) _ j (by rw [Array.size_setIfInBounds]; omega)]
    by_cases h1 : j = o
    · subst h1
      rw [if_neg (by omega), if_pos (by omega), Nat.sub_self, Array.getElem?_setIfInBounds_self_of_lt (by omega)]
      rfl
    · by_cases h2 : o ≤ j ∧ j < o + (vs.length + 1)
      · rw [if_pos (by omega), if_pos h2]
        have : j - o = (j - (o + 1)) + 1 := by omega
        rw [this, List.getElem?_cons_succ]
      · rw [if_neg (by omega), if_neg h2, Array.getElem?_setIfInBounds_ne (by omega)]
theorem cFill_ok {el : TypeId} {s n : Nat} {a : T AV} {act : Act} (hG : ∀ g, g < G → ∃ sz, e g = some (g, 0, sz)) {ops : Array Operand} (ho : Ops sy e a act ops) (hs : sizeAt P el = some s) (hN : n * s ≤ 2 ^ 25) :
    ∀ (parts : List (Nat × Operand)) (c : T AV) (cells : Array Value) {K : T AV → Bool}, (∀ x ∈ parts, x.2 ∈ ops) → TA sy e c cells → cells.size = n * s → (cFill P G el s n parts).f a c K = true →
      ∃ c' cells', K c' = true ∧ TA sy e c' cells' ∧ cells'.size = n * s ∧ Instr.fill (fun i => some (i * s, s)) cells (parts.map fun x => (x.1, act.eval x.2)) = some cells'
  | [], c, cells, K, _, hc, hn, h => ⟨c, cells, h, hc, hn, rfl⟩
  | (i, x) :: r, c, cells, K, hmem, hc, hn, h => by
    cases hb : Nat.blt i n with
    | false => simp only [cFill, hb, BT.f, undF_eq, infoF_eq, funF_eq] at h; cases h
    | true =>
      simp only [cFill, hb, BT.f, undF_eq, infoF_eq, funF_eq] at h
      have hin := blt_iff.1 hb
      obtain ⟨v, h1, h2⟩ := cOpd_ok hG ho (hmem (i, x) List.mem_cons_self) h
      replace h2 : RV sy e v (act.eval x) := h2
      obtain ⟨w, h3, h4, q, h5, h6⟩ := cCells_ok h1 h2
      rw [hs] at h5
      cases h5
      obtain ⟨c1, h7, _, h8⟩ := fillK_ok (act.eval x).cells.toList w (i * s) c h4 h3
      have hlen : (act.eval x).cells.toList.length = s := by simpa using h6
      have hfit : i * s + s ≤ n * s := by
        have : (i + 1) * s ≤ n * s := Nat.mul_le_mul_right _ hin
        rw [Nat.succ_mul] at this
        exact this
      obtain ⟨h9, h10⟩ := h8 (by omega)
      have hTA : TA sy e c1 (putV (act.eval x).cells.toList (i * s) cells) := by
        intro j hj
        rw [size_putV] at hj
        rw [get_putV _ _ _ _ (by omega)]
        by_cases hin' : i * s ≤ j ∧ j < i * s + (act.eval x).cells.toList.length
        · rw [if_pos hin']
          obtain ⟨u, g1, g2, g3⟩ := h9 (j - i * s) (by omega)
          have e1 : i * s + (j - i * s) = j := by omega
          rw [e1] at g2 g3
          exact ⟨u, g1, g2, g3⟩
        · rw [if_neg hin', h10 j (by omega) (by omega)]
          exact hc j hj
      obtain ⟨c', cells', g1, g2, g3, g4⟩ := cFill_ok hG ho hs hN r c1 _ (fun y hy => hmem y (List.mem_cons_of_mem _ hy)) hTA (by rw [size_putV]; exact hn) h7
      refine ⟨c', cells', g1, g2, g3, ?_⟩
      rw [List.map_cons, fill_cons _ cells i (i * s) s _ _ rfl h6 (by omega)]
      exact g4
def repV (zs : List Value) : Nat → List Value
  | 0 => []
  | n + 1 => zs ++ repV zs n
theorem repV_get (zs : List Value) : ∀ (n i : Nat), i < n * zs.length → (repV zs n)[i]? = zs[i % zs.length]?
  | 0, i, h => by simp at h
  | n + 1, i, h => by
    rw [repV]
    by_cases hi : i < zs.length
    · rw [List.getElem?_append_left hi, Nat.mod_eq_of_lt hi]
    · rw [Nat.succ_mul] at h
      have em := Nat.mod_eq_sub_mod (a := i) (b := zs.length) (by omega)
      rw [List.getElem?_append_right (by omega), repV_get zs n (i - zs.length) (by omega), em]
theorem repV_len (zs : List Value) : ∀ n, (repV zs n).length = n * zs.length
  | 0 => by simp [repV]
  | n + 1 => by rw [repV, List.length_append, repV_len zs n, Nat.succ_mul, Nat.add_comm]
/-- The model's row of zeros. -/
theorem zeros_eq (zero : Array Value) (n : Nat) : (Array.range (n * zero.size)).map (zero[· % zero.size]!) = (repV zero.toList n).toArray := by
  apply Array.ext'
  apply List.ext_getElem?
  intro i
  rw [Array.toList_map, List.getElem?_map]
  by_cases hi : i < n * zero.size
  · have h0 : 0 < zero.size := by
      rcases Nat.eq_zero_or_pos zero.size with h | h
      · rw [h] at hi; omega
      · exact h
    have hm : i % zero.size < zero.size := Nat.mod_lt _ h0
    have e1 : (Array.range (n * zero.size)).toList[i]? = some i := by simp [hi]
    rw [e1]
    have := repV_get zero.toList n i (by simpa using hi)
    simp only [Array.length_toList] at this
    rw [this]
    simp [hm]
  · have e1 : (Array.range (n * zero.size)).toList[i]? = none := by simp; omega
    rw [e1]
    have : (repV zero.toList n).length ≤ i := by rw [repV_len]; simp; omega
    simp [List.getElem?_eq_none this]
theorem RL.app {l l' : AV} {vs vs' : List Value} (h : RL sy e l vs) (h' : RL sy e l' vs') : RL sy e (ofL (Ev.toL l ++ Ev.toL l')) (vs ++ vs') := by
  induction vs generalizing l with
  | nil => cases h; exact h'.ofTo
  | cons v vs ih => cases h with | cons hv hl => exact .cons hv (ih hl)
theorem repA_ok {z : AV} {zs : List Value} (h : RL sy e z zs) : ∀ n, RL sy e (repA z n) (repV zs n)
  | 0 => .eol
  | n + 1 => h.app (repA_ok h n)
theorem allCell_app : ∀ (l l' : List AV), (∀ x ∈ l, x.cell = true) → (∀ x ∈ l', x.cell = true) → allCell (ofL (l ++ l')) = true
  | [], [], _, _ => rfl
  | [], x :: l', h, h' => by
    have ih := allCell_app [] l' (fun _ h => by cases h) (fun y hy => h' y (List.mem_cons_of_mem _ hy))
    have hx := h' x List.mem_cons_self
    show asCell x (allCell (ofL ([] ++ l'))) = true
    rw [ih]; revert hx; cases x <;> intro hx <;> first | rfl | cases hx
  | x :: l, l', h, h' => by
    have ih := allCell_app l l' (fun y hy => h y (List.mem_cons_of_mem _ hy)) h'
    have hx := h x List.mem_cons_self
    show asCell x (allCell (ofL (l ++ l'))) = true
    rw [ih]; revert hx; cases x <;> intro hx <;> first | rfl | cases hx
theorem allCell_mem : ∀ (l : AV), allCell l = true → ∀ x ∈ toL l, x.cell = true
  | .cons x l, h, y, hy => by
    obtain ⟨h1, h2⟩ := allCell_cons h
    rcases List.mem_cons.1 (show y ∈ x :: toL l from hy) with rfl | hy
    · exact h1
    · exact allCell_mem l h2 y hy
  | .eol, _, y, hy => by cases hy
  | .int .., _, y, hy => by cases hy
  | .bool .., _, y, hy => by cases hy
  | .str .., _, y, hy => by cases hy
  | .ref .., _, y, hy => by cases hy
  | .slc .., _, y, hy => by cases hy
  | .nil .., _, y, hy => by cases hy
  | .fn .., _, y, hy => by cases hy
  | .ifc .., _, y, hy => by cases hy
  | .agg .., _, y, hy => by cases hy
  | .tup .., _, y, hy => by cases hy
  | .sym .., _, y, hy => by cases hy
theorem toL_ofL : ∀ l : List AV, toL (ofL l) = l
  | [] => rfl
  | x :: l => congrArg (x :: ·) (toL_ofL l)
theorem repA_cell {z : AV} (h : allCell z = true) : ∀ n, ∀ x ∈ toL (repA z n), x.cell = true
  | 0, x, hx => by cases hx
  | n + 1, x, hx => by
    rw [repA, toL_ofL] at hx
    rcases List.mem_append.1 hx with hx | hx
    · exact allCell_mem z h x hx
    · exact repA_cell h n x hx
theorem repA_all {z : AV} (h : allCell z = true) : ∀ n, allCell (repA z n) = true
  | 0 => rfl
  | n + 1 => allCell_app _ _ (allCell_mem z h) (repA_cell h n)
theorem raw_buildSlice (t : TypeId) (n : Nat) (parts : Array (Nat × Operand)) : (∃ g, cOp P G (.buildSlice t n parts) = xA g ∧ RawA P sy G (.buildSlice t n parts) g ∧ ∀ a, Det3 (g a)) ∨ cOp P G (.buildSlice t n parts) = xNo := by
  have hmem : ∀ x ∈ parts.toList, x.2 ∈ (Op.buildSlice t n parts).operands := by
    intro x hx
    simp only [Op.operands, List.mem_toArray, List.mem_map]
    exact ⟨x, hx, rfl⟩
  cases hu : P.underlying t with
  | none => simp only [cOp, hu, BX.f, undF_eq, infoF_eq, funF_eq]; exact .inr (by trivial)
  | some d =>
    by_cases hd : ∃ el, d = .slice el
    · obtain ⟨el, rfl⟩ := hd
      cases hs : sizeAt P el with
      | none => simp only [cOp, hu, hs, BX.f, undF_eq, infoF_eq, funF_eq]; exact .inr (by trivial)
      | some s =>
        cases hz : zeroL P el with
        | none => simp only [cOp, hu, hs, hz, BX.f, undF_eq, infoF_eq, funF_eq]; exact .inr (by trivial)
        | some z =>
          cases hb : (Nat.ble (Nat.mul n s) 10000 && Nat.beq (cntA z) s) with
          | false => simp only [cOp, hu, hs, hz, hb, BX.f, undF_eq, infoF_eq, funF_eq]; exact .inr (by trivial)
          | true =>
            simp only [cOp, hu, hs, hz, hb, BX.f, undF_eq, infoF_eq, funF_eq]
            simp only [Bool.and_eq_true] at hb
            have hN : n * s ≤ 10000 := ble_iff.1 hb.1
            have hcz := beq_iff.1 hb.2
            refine .inl ⟨_, rfl, ?_, fun a => Det3.of (Det.bind (Det.cfill _ _) fun c => Det.ret _)⟩
            intro a K h e act hG hops
            obtain ⟨zv, hz1, hz2, hz3⟩ := zeroL_ok (sy := sy) (e := e) hz
            have hzs : zv.cells.size = s := by
              have := hz1.cntA
              rw [hcz] at this
              simpa using this.symm
            have hrl := repA_ok hz1 n
            have hlen : (repV zv.cells.toList n).length = n * s := by rw [repV_len]; simp [hzs]
            have hTA : TA sy e (fillT (repA z n)) (repV zv.cells.toList n).toArray := by
              intro i hi
              have hi' : i < (repV zv.cells.toList n).length := by simpa using hi
              obtain ⟨u, g1, g2, g3⟩ := (fillT_ok _ (repA z n) 0 .leaf hrl (repA_all hz2 n) (by rw [hlen]; omega)).1 i hi'
              rw [Nat.zero_add] at g2 g3
              exact ⟨u, by simpa using g1, g2, g3⟩
            obtain ⟨c', cells', g1, g2, g3, g4⟩ := cFill_ok hG hops hs (by omega) parts.toList _ _ hmem hTA (by simpa using hlen) h
            refine ⟨_, _, _, g1, cells', el, fun r => .slice (some ⟨r, 0, none⟩) n n, by rw [g3]; exact Nat.le_refl _, fun _ i hi => g2 i (by rw [g3]; exact hi), fun e' p r hp => ?_, fun o W ho => ?_⟩
            · exact .slc (o := 0) hp (Nat.le_refl _) (by rw [g3]; omega) (fun k hk => by cases hk; rfl)
            · have hlim : ¬ 16777216 < n * s := by omega
              have hfill : Instr.fill (fun i => some (i * s, s)) ((Array.range (n * s)).map (zv.cells[· % zv.cells.size]!)) (parts.map fun x => (x.1, act.eval x.2)).toList = some cells' := by
                have := zeros_eq zv.cells n
                rw [hzs] at this
                rw [hzs, this]
                simpa using g4
              have e1 : (parts.map fun x => (x.1, act.eval x.2)).toList = List.map (fun x => (x.fst, act.eval x.snd)) parts.toList := by simp
              rw [e1] at hfill
              by_cases h0 : n * s = 0
              · have e2 : (Array.range (n * s)).map (zv.cells[· % zv.cells.size]!) = Array.map (fun _ => (default : Value)) (Array.range 0) := by rw [h0]; simp
                rw [e2] at hfill
                simp [execOp, ho, Instr.buildSlice, run_underlying hu, sizeAt_run hs, h0, newRow]
                rw [hfill]; simp
              · simp [execOp, ho, Instr.buildSlice, run_underlying hu, sizeAt_run hs, hlim, h0, hz3, newRow]
                rw [hfill]; simp
    · have e1 : cOp P G (.buildSlice t n parts) = xNo := by
        simp only [cOp, hu, BX.f, undF_eq, infoF_eq, funF_eq]
        cases d <;> first | rfl | exact absurd ⟨_, rfl⟩ hd
      rw [e1]; exact .inr (by trivial)
theorem op_buildSlice (t : TypeId) (n : Nat) (parts : Array (Nat × Operand)) : OpOk P sy N0 W0 G (cOp P G (.buildSlice t n parts)) (.buildSlice t n parts) := by
  rcases raw_buildSlice (P := P) (sy := sy) (G := G) t n parts with ⟨g, h1, h2, _⟩ | h
  · rw [h1]; exact xA_ok h2
  · rw [h]; exact xNo_ok
theorem repK_ok {z : AV} {zs : List Value} (hz : RL sy e z zs) : ∀ (n o : Nat) (c : T AV) {K : Nat → T AV → Bool}, repK z n o c K = true → ∃ c', K (o + n * zs.length) c' = true ∧ (o + n * zs.length ≤ 2 ^ 25 →
    (∀ i, i < n * zs.length → ∃ v, (repV zs n)[i]? = some v ∧ RV sy e (T.get und c' ((o + i))) v ∧ (T.get und c' ((o + i))).cell = true) ∧ ∀ i, i < 2 ^ 25 → (i < o ∨ o + n * zs.length ≤ i) → T.get und c' i = T.get und c i)
  | 0, o, c, K, h => ⟨c, by simpa using (show K o c = true from h), fun _ => ⟨(fun i hi => by simp at hi), fun i _ _ => rfl⟩⟩
  | n + 1, o, c, K, h => by
    have h' : fillK z o c (fun o c => repK z n o c K) = true := h
    obtain ⟨c1, h1, _, h2⟩ := fillK_ok zs z o c hz h'
    obtain ⟨c', h3, h4⟩ := repK_ok hz n (o + zs.length) c1 h1
    have e1 : o + (n + 1) * zs.length = o + zs.length + n * zs.length := by rw [Nat.succ_mul]; omega
    refine ⟨c', by rw [e1]; exact h3, fun hb => ?_⟩
    rw [e1] at hb
    obtain ⟨g1, g2⟩ := h2 (by omega)
    obtain ⟨g3, g4⟩ := h4 hb
    refine ⟨fun i hi => ?_, fun i hi1 hi2 => ?_⟩
    · rw [repV]
      by_cases hiz : i < zs.length
      · obtain ⟨v, q1, q2, q3⟩ := g1 i hiz
        have := g4 (o + i) (by omega) (.inl (by omega))
        exact ⟨v, by rw [List.getElem?_append_left hiz]; exact q1, by rw [this]; exact q2, by rw [this]; exact q3⟩
      · rw [Nat.succ_mul] at hi
        obtain ⟨v, q1, q2, q3⟩ := g3 (i - zs.length) (by omega)
        have e2 : o + zs.length + (i - zs.length) = o + i := by omega
        rw [e2] at q2 q3
        exact ⟨v, by rw [List.getElem?_append_right (by omega)]; exact q1, q2, q3⟩
    · rw [e1] at hi2
      rw [g4 i hi1 (by omega), g2 i hi1 (by omega)]
theorem raw_makeSlice (t : TypeId) (l c : Operand) : (∃ g, cOp P G (.makeSlice t l c) = xA g ∧ RawA P sy G (.makeSlice t l c) g ∧ ∀ a, Det3 (g a)) ∨ cOp P G (.makeSlice t l c) = xNo := by
  cases hu : P.underlying t with
  | none => simp only [cOp, hu, BX.f, undF_eq, infoF_eq, funF_eq]; exact .inr (by trivial)
  | some d =>
    by_cases hd : ∃ el, d = .slice el
    · obtain ⟨el, rfl⟩ := hd
      cases hs : sizeAt P el with
      | none => simp only [cOp, hu, hs, BX.f, undF_eq, infoF_eq, funF_eq]; exact .inr (by trivial)
      | some s =>
        cases hz : zeroL P el with
        | none => simp only [cOp, hu, hs, hz, BX.f, undF_eq, infoF_eq, funF_eq]; exact .inr (by trivial)
        | some z =>
          cases hi : P.info? el with
          | none => simp only [cOp, hu, hs, hz, hi, BX.f, undF_eq, infoF_eq, funF_eq]; exact .inr (by trivial)
          | some it =>
          cases hb : (Nat.beq (cntA z) s && Nat.ble it.bytes 1000000) with
          | false => simp only [cOp, hu, hs, hz, hi, hb, BX.f, undF_eq, infoF_eq, funF_eq]; exact .inr (by trivial)
          | true =>
            simp only [cOp, hu, hs, hz, hi, hb, BX.f, undF_eq, infoF_eq, funF_eq]
            simp only [Bool.and_eq_true] at hb
            have hcz := beq_iff.1 hb.1
            have hby := ble_iff.1 hb.2
            refine .inl ⟨_, rfl, ?_, fun a => Det3.of (Det.opd fun v => Det.opd fun w => Det.asInt fun _ l => Det.asNat fun l => Det.asInt fun _ c => Det.asNat fun c => Det.ifB (Det2.bind (Det2.rep _ _ _ _) fun n t => Det.ret _) Det.no)⟩
            intro a K h e act hG hops
            obtain ⟨zv, hz1, hz2, hz3⟩ := zeroL_ok (sy := sy) (e := e) hz
            have hzs : zv.cells.toList.length = s := by
              have := hz1.cntA
              rw [hcz] at this
              exact this.symm
            have hzs' : zv.cells.size = s := by simpa using hzs
            obtain ⟨v, h1, h2⟩ := cOpd_ok hG hops (x := l) (by simp [Op.operands]) h
            obtain ⟨w, h3, h4⟩ := cOpd_ok hG hops (x := c) (by simp [Op.operands]) h1
            obtain ⟨k1, q1, rfl, h5⟩ := asInt_yes h3
            obtain ⟨n, rfl, h6⟩ := asNat_yes h5
            obtain ⟨k2, q2, rfl, h7⟩ := asInt_yes h6
            obtain ⟨cap, rfl, h8⟩ := asNat_yes h7
            obtain ⟨h9, h10⟩ := ifB_yes h8
            simp only [Bool.and_eq_true] at h9
            have hnc := ble_iff.1 h9.1
            have hcl := ble_iff.1 h9.2
            obtain ⟨c', h11, h12⟩ := repK_ok hz1 cap 0 .leaf h10
            rw [Nat.zero_add, hzs] at h11
            generalize hlv : act.eval l = lv at h2
            generalize hcv : act.eval c = cv at h4
            cases h2; cases h4
            refine ⟨_, _, _, h11, (repV zv.cells.toList cap).toArray, el, fun r => .slice (some ⟨r, 0, none⟩) n cap, by simp [repV_len, hzs'], fun ht i hi => ?_, fun e' p r hp => ?_, fun o W ho => ?_⟩
            · rw [Nat.zero_add, hzs] at h12
              obtain ⟨g1, _⟩ := h12 (by unfold top at ht; omega)
              obtain ⟨u, r1, r2, r3⟩ := g1 i hi
              rw [Nat.zero_add] at r2 r3
              exact ⟨u, by simpa using r1, r2, r3⟩
            · exact .slc (o := 0) hp hnc (by simp [repV_len, hzs']) (fun k hk => by cases hk; rfl)
            · have hwl : IntKind.i64.wrap (n : Int) = n := by
                show (if (true && decide ((n : Int) % 18446744073709551616 ≥ 9223372036854775808)) = true then (n : Int) % 18446744073709551616 - 18446744073709551616 else (n : Int) % 18446744073709551616) = n
                simp only [Bool.true_and, decide_eq_true_eq]
                split <;> omega
              have hwc : IntKind.i64.wrap (cap : Int) = cap := by
                show (if (true && decide ((cap : Int) % 18446744073709551616 ≥ 9223372036854775808)) = true then (cap : Int) % 18446744073709551616 - 18446744073709551616 else (cap : Int) % 18446744073709551616) = cap
                simp only [Bool.true_and, decide_eq_true_eq]
                split <;> omega
              have hbig : ∀ q : Nat, q ≤ 10000 → ¬ ((281474976710656 : Int) < (it.bytes : Int) * (q : Int)) := fun q hq => by
                have : it.bytes * q ≤ 1000000 * 10000 := Nat.mul_le_mul hby hq
                have : ((it.bytes * q : Nat) : Int) ≤ ((1000000 * 10000 : Nat) : Int) := Int.ofNat_le.2 this
                rw [Int.natCast_mul] at this
                omega
              have hz' := zeros_eq zv.cells cap
              rw [hzs'] at hz'
              have hn1 : ¬ ((n : Int) < 0) := by omega
              have hn2 : ¬ ((cap : Int) < 0) := by omega
              have hn3 : ¬ ((cap : Int) < (n : Int)) := by omega
              have hti : ∀ W, (typeInfo el).run P W = .ok it W := fun W => by simp [typeInfo, hi]
              by_cases h0 : cap * s = 0
              · have e2 : (repV zv.cells.toList cap).toArray = #[] := by
                  have : (repV zv.cells.toList cap).length = 0 := by rw [repV_len, hzs]; exact h0
                  rw [List.eq_nil_of_length_eq_zero this]
                rw [e2]
                simp [execOp, ho, hlv, hcv, Instr.makeSlice, run_underlying hu, Go.asInt, asIntOf, hwl, hwc, hn1, hn2, hn3, hnc, hti, hbig cap hcl, sizeAt_run hs, h0, newRow]
                congr 2
                first | (simp; done) | (rw [hzs']; exact hz')
              · simp [execOp, ho, hlv, hcv, Instr.makeSlice, run_underlying hu, Go.asInt, asIntOf, hwl, hwc, hn1, hn2, hn3, hnc, hti, hbig cap hcl, sizeAt_run hs, h0, newRow, hz3]
                congr 2
                first | (simp; done) | (rw [hzs']; exact hz')
    · have e1 : cOp P G (.makeSlice t l c) = xNo := by
        simp only [cOp, hu, BX.f, undF_eq, infoF_eq, funF_eq]
        cases d <;> first | rfl | exact absurd ⟨_, rfl⟩ hd
      rw [e1]; exact .inr (by trivial)
theorem op_makeSlice (t : TypeId) (l c : Operand) : OpOk P sy N0 W0 G (cOp P G (.makeSlice t l c)) (.makeSlice t l c) := by
  rcases raw_makeSlice (P := P) (sy := sy) (G := G) t l c with ⟨g, h1, h2, _⟩ | h
  · rw [h1]; exact xA_ok h2
  · rw [h]; exact xNo_ok
theorem raw_all : ∀ op : Op, kindOf op = 2 → (∃ g, cOp P G op = xA g ∧ RawA P sy G op g ∧ ∀ a, Det3 (g a)) ∨ cOp P G op = xNo := by
  intro op h
  cases op with
  | alloc t => exact raw_alloc t
  | box t x => exact raw_box t x
  | buildSlice t n ps => exact raw_buildSlice t n ps
  | makeSlice t l c => exact raw_makeSlice t l c
  | call c =>
    obtain ⟨cal, args, ts⟩ := c
    cases cal with
    | builtin b => cases b <;> cases h
    | _ => cases h
  | _ => cases h
theorem op_clear (args : Array Operand) (ts : Array TypeId) : OpOk P sy N0 W0 G (cOp P G (.call { callee := .builtin .clear, args, argTypes := ts })) (.call { callee := .builtin .clear, args, argTypes := ts }) := by
  obtain ⟨args⟩ := args
  obtain ⟨ts⟩ := ts
  have no : cOp P G (.call { callee := .builtin .clear, args := ⟨args⟩, argTypes := ⟨ts⟩ }) = xNo → OpOk P sy N0 W0 G (cOp P G (.call { callee := .builtin .clear, args := ⟨args⟩, argTypes := ⟨ts⟩ })) (.call { callee := .builtin .clear, args := ⟨args⟩, argTypes := ⟨ts⟩ }) := fun h => by rw [h]; exact xNo_ok
  cases args with
  | nil => exact no rfl
  | cons x args => cases args with
    | cons y args => exact no rfl
    | nil => cases ts with
      | nil => exact no rfl
      | cons t ts => cases ts with
        | cons u ts => exact no rfl
        | nil =>
          cases hu : P.underlying t with
          | none => exact no (by simp only [cOp, hu, undF_eq, infoF_eq, funF_eq])
          | some d =>
            by_cases hd : ∃ el, d = .slice el
            · obtain ⟨el, rfl⟩ := hd
              cases hs : sizeAt P el with
              | none => exact no (by simp only [cOp, hu, hs, undF_eq, infoF_eq, funF_eq])
              | some s =>
                cases hz : zeroL P el with
                | none => exact no (by simp only [cOp, hu, hs, hz, undF_eq, infoF_eq, funF_eq])
                | some z =>
                  cases hb : Nat.beq (cntA z) s with
                  | false => exact no (by simp only [cOp, hu, hs, hz, hb, undF_eq, infoF_eq, funF_eq])
                  | true =>
                    simp only [cOp, hu, hs, hz, hb, undF_eq, infoF_eq, funF_eq]
                    intro call _ a m nx K KP hb' e act W hG hst hops Y Z hK _ o ho
                    obtain ⟨zv, hz1, hz2, hz3⟩ := zeroL_ok (sy := sy) (e := e) hz
                    have hcz := beq_iff.1 hb
                    have hzs : zv.cells.size = s := by
                      have := hz1.cntA
                      rw [hcz] at this
                      simpa using this.symm
                    obtain ⟨v, h1, h2⟩ := cOpd_ok hG hops (x := x) (by simp [Op.operands, Call.operands]) hb'
                    rcases asSlc_yes h1 with ⟨p, q, es, n, c, rfl, h3⟩ | ⟨rfl, h3⟩
                    · generalize hx : act.eval x = xv at h2
                      cases h2 with
                      | slc hp hn hsz hcap =>
                        rename_i r base sz cap
                        cases n with
                        | zero =>
                          have hr : (execOp act.eval o).run P W = .ok (.value (.tuple #[])) W := by simp [execOp, ho, resolve, invoke, builtin, Builtin.clear_, run_underlying hu, hx]
                          rw [hr]
                          exact hK e und undef m nx W (Env.le_refl e) hst RV.und h3
                        | succ n =>
                          have h4 : ifB (Nat.beq es s) (writeK false m p q (repA z (n + 1)) fun m => K und m nx) false = true := h3
                          obtain ⟨h5, h6⟩ := ifB_yes h4
                          obtain ⟨m', g1, g2, g3, g4, g5⟩ := writeK_ok h6 hst hp (fun h => by cases h) (repA_ok hz1 (n + 1))
                          have hst' := run_storeCells_cells (P := P) r (base + q) (repV zv.cells.toList (n + 1)) 0 W (by simpa using g4) (by simpa using g5) g3
                          simp only [Nat.add_zero] at hst'
                          have hzc : (Builtin.zeroCells zv.cells (n + 1)).toList = repV zv.cells.toList (n + 1) := by
                            have := zeros_eq zv.cells (n + 1)
                            show ((Array.range ((n + 1) * zv.cells.size)).map (zv.cells[· % zv.cells.size]!)).toList = _
                            rw [this]
                          have hrun : (execOp act.eval o).run P W = .ok (.value (.tuple #[])) (W.setCells r (base + q) (repV zv.cells.toList (n + 1))) := by
                            simp [execOp, ho, resolve, invoke, builtin, Builtin.clear_, run_underlying hu, hx, hz3, hzc, hst']
                          rw [hrun]
                          exact hK e und undef m' nx _ (Env.le_refl e) g2 RV.und g1
                    · generalize hx : act.eval x = xv at h2
                      cases h2
                      have hr : (execOp act.eval o).run P W = .ok (.value (.tuple #[])) W := by simp [execOp, ho, resolve, invoke, builtin, Builtin.clear_, run_underlying hu, hx]
                      rw [hr]
                      exact hK e und undef m nx W (Env.le_refl e) hst RV.und h3
            · refine no ?_
              simp only [cOp, hu, undF_eq, infoF_eq, funF_eq]
              cases d <;> first | rfl | exact absurd ⟨_, rfl⟩ hd
end
end Go.Proofs.YtdoddlkppkegnaaGreatDoor.Ev
