/- The layout's marker: put. -/
import Derived.Test.YtnpgdeioaehahaaDoorLayM
import Derived.Test.YtnpgdeioaehahaaDoorStepKept2
namespace Go.Proofs.YtnpgdeioaehahaaDoor
open Go.RowKit Go.Shelf

section
variable {W w2 : World} {B bm : Nat} {sv ov : Value} {m : Mk}
theorem tok_len (s : List Tok) : (s.flatMap Tok.cells).length = s.length * 5 := by
  induction s with
  | nil => rfl
  | cons x s ih => rw [List.flatMap_cons, List.length_append, ih, List.length_cons]; simp [Tok.cells]; omega
/-- A token more. -/
theorem MkAt.outed (h : MkAt W B bm sv ov m) {x : Tok} (hx : TokOk x) {g1 cap1 : Nat} (hk1 : Keeps (fun k => ov.ownBlock = some k) W w2)
    (hown : w2.ownsRow B 28 5 (.slice (some ⟨g1, 0, none⟩) (m.out.length + 1) cap1) (m.out.length + 1) (m.out.flatMap Tok.cells ++ x.cells)) (hat : ov.ownBlock = some g1 ∨ W.heap.size ≤ g1) :
    MkTo B bm sv ov W ⟨m.st, m.out ++ [x]⟩ (w2.setCell ⟨bm, 1, none⟩ (.slice (some ⟨g1, 0, none⟩) (m.out.length + 1) cap1)) := by
  have hb2 := h.box.keeps hk1 h.nO
  have k2 : Keeps (· = bm) w2 (w2.setCell ⟨bm, 1, none⟩ (.slice (some ⟨g1, 0, none⟩) (m.out.length + 1) cap1)) := (Keeps.refl (· = bm) w2).setCell (p := ⟨bm, 1, none⟩) (fun _ => rfl) _
  have hs2 := own_keeps h.stk hk1 h.nSO
  refine ⟨sv, .slice (some ⟨g1, 0, none⟩) (m.out.length + 1) cap1, ⟨hb2.set_ 1 _, own_keeps hs2 k2 (fun i hi e => h.nS (by rw [hi, e])), ?_, h.okc, fun t ht => ?_⟩, (hk1.mono (Y := Own3 bm sv ov) (fun i _ hi => .inr (.inr hi))).trans k2 (fun i _ e => .inl e), fun i hi => ?_⟩
  · have := own_keeps hown k2 (fun i hi e => own_ne_blk hown hb2 (by decide) (by rw [hi, e]))
    simpa [List.length_append, List.flatMap_append] using this
  · rcases List.mem_append.1 ht with h1 | h1
    · exact h.oko t h1
    · rw [List.mem_singleton.1 h1]; exact hx
  · rcases hi with e | e | e
    · exact .inl (.inl e)
    · exact .inl (.inr (.inl e))
    · have e1 : g1 = i := by simpa [Value.ownBlock] using e
      subst e1
      rcases hat with h1 | h1
      · exact .inl (.inr (.inr h1))
      · exact .inr h1
/-- A context more. -/
theorem MkAt.pushed (h : MkAt W B bm sv ov m) {x : Ctx} (hx : CtxOk x) {g1 cap1 : Nat} (hk1 : Keeps (fun k => sv.ownBlock = some k) W w2)
    (hown : w2.ownsRow B 97 2 (.slice (some ⟨g1, 0, none⟩) (m.st.length + 1) cap1) (m.st.length + 1) (m.st.flatMap Ctx.cells ++ x.cells)) (hat : sv.ownBlock = some g1 ∨ W.heap.size ≤ g1) :
    MkTo B bm sv ov W (m.push x) (w2.setCell ⟨bm, 0, none⟩ (.slice (some ⟨g1, 0, none⟩) (m.st.length + 1) cap1)) := by
  have hb2 := h.box.keeps hk1 h.nS
  have k2 : Keeps (· = bm) w2 (w2.setCell ⟨bm, 0, none⟩ (.slice (some ⟨g1, 0, none⟩) (m.st.length + 1) cap1)) := (Keeps.refl (· = bm) w2).setCell (p := ⟨bm, 0, none⟩) (fun _ => rfl) _
  have ho2 := own_keeps h.out hk1 (fun i hi e => h.nSO i e hi)
  refine ⟨.slice (some ⟨g1, 0, none⟩) (m.st.length + 1) cap1, ov, ⟨hb2.set_ 0 _, ?_, own_keeps ho2 k2 (fun i hi e => h.nO (by rw [hi, e])), fun t ht => ?_, h.oko⟩, (hk1.mono (Y := Own3 bm sv ov) (fun i _ hi => .inr (.inl hi))).trans k2 (fun i _ e => .inl e), fun i hi => ?_⟩
  · have := own_keeps hown k2 (fun i hi e => own_ne_blk hown hb2 (by decide) (by rw [hi, e]))
    unfold Mk.push
    simpa [List.length_append, List.flatMap_append] using this
  · have ht : t ∈ m.st ++ [x] := ht
    rcases List.mem_append.1 ht with h1 | h1
    · exact h.okc t h1
    · rw [List.mem_singleton.1 h1]; exact hx
  · rcases hi with e | e | e
    · exact .inl (.inl e)
    · have e1 : g1 = i := by simpa [Value.ownBlock] using e
      subst e1
      rcases hat with h1 | h1
      · exact .inl (.inr (.inl h1))
      · exact .inr h1
    · exact .inl (.inr (.inr e))
end
set_option maxRecDepth 100000 in
set_option maxHeartbeats 8000000 in
theorem lput_any (W : World) (B bm : Nat) (sv ov : Value) (m : Mk) (h : MkAt W B bm sv ov m) (hB : B ≤ W.heap.size) (k : Int) (t : Tok) (hk : 0 ≤ k ∧ k ≤ 9) (ht : TokOk t) (hn : m.out.length ≤ 200000) :
    Calls Tryd.prog 59 #[.pointer (some ⟨bm, 0, none⟩), .int .i64 k, .agg #[.int .i64 t.kind, .string t.text, .int .i64 t.n, .int .i64 t.line, .int .i64 t.col]] W (fun e w' => e = .returned (.tuple #[]) ∧ MkTo B bm sv ov W (m.put k t) w') := by
  obtain ⟨i0, hi0, hz0, hz1, hz2⟩ := info_parts infoTok
  obtain ⟨b5, hb5⟩ : ∃ b5, W.heap.size = b5 := ⟨_, rfl⟩
  obtain ⟨W0, hW0⟩ : ∃ W0, W.alloc (.cells #[.int .i64 t.kind, .string t.text, .int .i64 t.n, .int .i64 t.line, .int .i64 t.col] 28) = W0 := ⟨_, rfl⟩
  have hk0 : Keeps (fun _ => False) W W0 := by rw [← hW0]; exact (Keeps.refl _ _).alloc _
  have hB5 : Blk W0 b5 28 [.int .i64 t.kind, .string t.text, .int .i64 t.n, .int .i64 t.line, .int .i64 t.col] := by rw [← hW0, ← hb5]; exact Blk.new W _ [_, _, _, _, _]
  have h0 := h.same hk0
  have hs0 := hk0.size
  have hx : TokOk (tokAt k t) := ⟨wf_small (n := k) hk.1 (by omega), by show (0 : Nat) ≤ maxLen; exact Nat.zero_le _, wf_small (n := 0) (by decide) (by decide), ht.2.2.2.1, ht.2.2.2.2⟩
  have HOut : Hid (∀ (w2 : World) (g1 cap1 : Nat), Keeps (fun k => ov.ownBlock = some k) W0 w2 → w2.ownsRow B 28 5 (.slice (some ⟨g1, 0, none⟩) (m.out.length + 1) cap1) (m.out.length + 1) (m.out.flatMap Tok.cells ++ (tokAt k t).cells) → (ov.ownBlock = some g1 ∨ W0.heap.size ≤ g1) → MkTo B bm sv ov W (m.put k t) (w2.setCell ⟨bm, 1, none⟩ (.slice (some ⟨g1, 0, none⟩) (m.out.length + 1) cap1))) := fun w2 g1 cap1 q1 q2 q3 =>
    MkTo.trans (hk0.mono (fun _ _ h => h.elim)) (fun i hi => .inl hi) (h0.outed hx q1 q2 q3)
  obtain ⟨n, hnl⟩ : ∃ n, m.out.length = n := ⟨_, rfl⟩
  have hown := h0.out
  rw [hnl] at hown hn HOut
  have HMq : Hid (n + 1 ≤ maxLen) := by show _ ≤ _; unfold maxLen; omega
  have HBq : Hid ((n + 1) * 48 ≤ 140737488355328) := by show _ ≤ _; omega
  have HBZ : Hid (B ≤ W0.heap.size) := by show _ ≤ _; omega
  have HNO := Lib.hid h0.nO
  have HBox := Lib.hid h0.box
  have HOwn := Lib.hid hown
  have hQ : Hid (∀ X, Keeps (fun i => ov.ownBlock = some i) W0 X → (X.cell? ⟨bm, 1, none⟩ = some ov ∧ X.cell? ⟨b5, 3, none⟩ = some (.int .i64 t.line) ∧ X.cell? ⟨b5, 4, none⟩ = some (.int .i64 t.col))) := fun X hk => by
    have hx := h0.box.keeps hk h0.nO
    have hy := hB5.keeps hk (fun e => by have := (h.out.lt _ e).2; omega)
    exact ⟨hx.cell (i := 1) rfl, hy.cell (i := 3) rfl, hy.cell (i := 4) rfl⟩
  have HW0 := Lib.hid hW0
  have HBn := Lib.hid hb5
  clear h h0 hB5 hk0 hW0 hb5 hx hown hnl hB hn hs0 ht
  go_enter Tryd.func59, Tryd.ntmps59
  go_upto_region 1 with (fail)
  rw [HW0.out, HBn.out]
  refine wp_region_noPanic ?_
  refine wp_region_till [15] (fun X => X.cell? ⟨bm, 1, none⟩ = some ov ∧ X.cell? ⟨b5, 3, none⟩ = some (.int .i64 t.line) ∧ X.cell? ⟨b5, 4, none⟩ = some (.int .i64 t.col)) (by kernel_rfl) ?_ (fun hE => ?_)
  · first | exact hQ.out _ hk1 | exact hQ.out _ (Keeps.mono (show Keeps (fun _ => False) W0 _ from (by repeat (first | (with_reducible exact Keeps.refl _ _) | (with_reducible refine Keeps.drew ?_) | (with_reducible refine Keeps.drewN ?_ _) | (with_reducible refine Keeps.alloc ?_ _) | (with_reducible refine Keeps.trans ?_ (by assumption) (fun _ _ h => h))))) (fun _ _ h => h.elim))
  have hS := hE (by kernel_rfl)
  refine wpAnyT_pure (i := 0) (oi := { dst := some 6, op := Op.move (Operand.tmp 0), type := 89, pos := "layout.go:64", after := #[], guard := none }) (v := ?v1_0_1) rfl (by kernel_rfl) (fun _ _ _ h => h) (Or.inl ⟨by rfl, ?y1_0_1⟩) (fun _ => hS) ?_
  case y1_0_1 => (intro w hSw; go_simp; try with_reducible rfl)
  try simp only [Act.put, List.setIfInBounds_toArray, List.set_cons_zero, List.set_cons_succ]
  refine wpAnyT_pure (i := 1) (oi := { dst := some 7, op := Op.move (Operand.tmp 0), type := 89, pos := "layout.go:64", after := #[], guard := none }) (v := ?v1_1_2) rfl (by kernel_rfl) (fun _ _ _ h => h) (Or.inl ⟨by rfl, ?y1_1_2⟩) (fun _ => hS) ?_
  case y1_1_2 => (intro w hSw; go_simp; try with_reducible rfl)
  try simp only [Act.put, List.setIfInBounds_toArray, List.set_cons_zero, List.set_cons_succ]
  refine wpAnyT_pure (i := 2) (oi := { dst := some 8, op := Op.nilCheck (Operand.tmp 7), type := 0, pos := "layout.go:64", after := #[⟨1, .data⟩], guard := none }) (v := ?v1_2_3) rfl (by kernel_rfl) (fun _ _ _ h => h) (Or.inl ⟨by rfl, ?y1_2_3⟩) (fun _ => hS) ?_
  case y1_2_3 => (intro w hSw; go_simp; try with_reducible rfl)
  try simp only [Act.put, List.setIfInBounds_toArray, List.set_cons_zero, List.set_cons_succ]
  refine wpAnyT_pure (i := 3) (oi := { dst := some 9, op := Op.fieldAddr 92 (Operand.tmp 8) 1, type := 0, pos := "layout.go:64", after := #[⟨2, .data⟩], guard := none }) (v := ?v1_3_4) rfl (by kernel_rfl) (fun _ _ _ h => h) (Or.inl ⟨by rfl, ?y1_3_4⟩) (fun _ => hS) ?_
  case y1_3_4 => (intro w hSw; go_simp; try with_reducible rfl)
  try simp only [Act.put, List.setIfInBounds_toArray, List.set_cons_zero, List.set_cons_succ]
  refine wpAnyT_take (i := 4) (oi := { dst := some 10, op := Op.load 22 (Operand.tmp 9), type := 22, pos := "layout.go:64", after := #[⟨3, .data⟩], guard := none }) (v := ?v1_4_5) rfl (by kernel_rfl) (fun _ _ _ h => h) (Or.inl ⟨by rfl, ?y1_4_5⟩) hS ?_
  case y1_4_5 => (intro w hSw; (try dsimp only at hSw); go_simp; try with_reducible rfl)
  try simp only [Act.put, List.setIfInBounds_toArray, List.set_cons_zero, List.set_cons_succ]
  refine wpAnyT_pure (i := 5) (oi := { dst := some 11, op := Op.move (Operand.tmp 1), type := 3, pos := "layout.go:64", after := #[], guard := none }) (v := ?v1_5_6) rfl (by kernel_rfl) (fun _ _ _ h => h) (Or.inl ⟨by rfl, ?y1_5_6⟩) (fun _ => hS) ?_
  case y1_5_6 => (intro w hSw; go_simp; try with_reducible rfl)
  try simp only [Act.put, List.setIfInBounds_toArray, List.set_cons_zero, List.set_cons_succ]
  refine wpAnyT_pure (i := 6) (oi := { dst := some 12, op := Op.fieldAddr 28 (Operand.tmp 5) 3, type := 0, pos := "layout.go:64", after := #[], guard := none }) (v := ?v1_6_7) rfl (by kernel_rfl) (fun _ _ _ h => h) (Or.inl ⟨by rfl, ?y1_6_7⟩) (fun _ => hS) ?_
  case y1_6_7 => (intro w hSw; go_simp; try with_reducible rfl)
  try simp only [Act.put, List.setIfInBounds_toArray, List.set_cons_zero, List.set_cons_succ]
  refine wpAnyT_take (i := 7) (oi := { dst := some 13, op := Op.load 3 (Operand.tmp 12), type := 3, pos := "layout.go:64", after := #[⟨6, .data⟩], guard := none }) (v := ?v1_7_8) rfl (by kernel_rfl) (fun _ _ _ h => h) (Or.inl ⟨by rfl, ?y1_7_8⟩) hS ?_
  case y1_7_8 => (intro w hSw; (try dsimp only at hSw); go_simp; try with_reducible rfl)
  try simp only [Act.put, List.setIfInBounds_toArray, List.set_cons_zero, List.set_cons_succ]
  refine wpAnyT_pure (i := 8) (oi := { dst := some 14, op := Op.fieldAddr 28 (Operand.tmp 5) 4, type := 0, pos := "layout.go:64", after := #[], guard := none }) (v := ?v1_8_9) rfl (by kernel_rfl) (fun _ _ _ h => h) (Or.inl ⟨by rfl, ?y1_8_9⟩) (fun _ => hS) ?_
  case y1_8_9 => (intro w hSw; go_simp; try with_reducible rfl)
  try simp only [Act.put, List.setIfInBounds_toArray, List.set_cons_zero, List.set_cons_succ]
  refine wpAnyT_take (i := 9) (oi := { dst := some 15, op := Op.load 3 (Operand.tmp 14), type := 3, pos := "layout.go:64", after := #[⟨8, .data⟩], guard := none }) (v := ?v1_9_10) rfl (by kernel_rfl) (fun _ _ _ h => h) (Or.inl ⟨by rfl, ?y1_9_10⟩) hS ?_
  case y1_9_10 => (intro w hSw; (try dsimp only at hSw); go_simp; try with_reducible rfl)
  try simp only [Act.put, List.setIfInBounds_toArray, List.set_cons_zero, List.set_cons_succ]
  refine wpAnyT_pure (i := 10) (oi := { dst := some 16, op := Op.build 28 #[(0, Operand.tmp 11), (3, Operand.tmp 13), (4, Operand.tmp 15)], type := 28, pos := "layout.go:64", after := #[⟨5, .data⟩, ⟨7, .data⟩, ⟨9, .data⟩], guard := none }) (v := ?v1_10_11) rfl (by kernel_rfl) (fun _ _ _ h => h) (Or.inl ⟨by rfl, ?y1_10_11⟩) (fun _ => hS) ?_
  case y1_10_11 => (intro w hSw; go_simp; try with_reducible rfl)
  try simp only [Act.put, List.setIfInBounds_toArray, List.set_cons_zero, List.set_cons_succ]
  refine wpAnyT_ready (rs := [11]) (by kernel_rfl) rfl ?_
  refine AllT.cons (o := { dst := some 17, op := Op.buildSlice 22 1 #[(0, Operand.tmp 16)], type := 22, pos := "layout.go:64", after := #[⟨10, .data⟩], guard := none }) rfl (fun K hK => ?_) ?_
  · go_simp
    refine hK.out _ _ (fun _ => ?_) (fun hE => ?_)
    · first | exact hQ.out _ hk1 | exact hQ.out _ (Keeps.mono (show Keeps (fun _ => False) W0 _ from (by repeat (first | (with_reducible exact Keeps.refl _ _) | (with_reducible refine Keeps.drew ?_) | (with_reducible refine Keeps.drewN ?_ _) | (with_reducible refine Keeps.alloc ?_ _) | (with_reducible refine Keeps.trans ?_ (by assumption) (fun _ _ h => h))))) (fun _ _ h => h.elim))
    have hS := hE (by kernel_rfl)
    clear hK K hE
    try simp only [Act.put, List.setIfInBounds_toArray, List.set_cons_zero, List.set_cons_succ]
    refine wpAnyT_ready (rs := [12]) (by kernel_rfl) rfl ?_
    refine AllT.cons (o := { dst := some 18, op := Op.call { callee := Callee.builtin Builtin.append, args := #[Operand.tmp 10, Operand.tmp 17], argTypes := #[22, 22] }, type := 22, pos := "layout.go:64", after := #[⟨4, .data⟩, ⟨11, .data⟩], guard := none }) rfl (fun K hK => ?_) ?_
    · (refine step_append_kept2 (W0 := W0) rfl (.tmp 10) (.tmp 17) 22 rfl B 28 i0 _ 5 48 Tryd.underlying22 hi0 hz0 hz1 hz2 rfl (by decide) ov n (m.out.flatMap Tok.cells) rfl HOwn.out (by repeat (first | (with_reducible exact Keeps.refl _ _) | (with_reducible refine Keeps.drew ?_) | (with_reducible refine Keeps.drewN ?_ _) | (with_reducible refine Keeps.alloc ?_ _) | (with_reducible refine Keeps.trans ?_ (by assumption) (fun _ _ h => h)))) _ _ #[.int .i64 k, .string ⟨#[]⟩, .int .i64 0, .int .i64 t.line, .int .i64 t.col] rfl rfl (by first | exact heap_new_at (by simp) | exact heap_new_at (w := W0) (by simp)) (by simp [Value.oneCell']) HMq.out HBq.out HBZ.out ?_; intro g1 cap1 w2 hown1 hk1 hkp1 hat1; have hb2 := HBox.out.keeps hk1 HNO.out)
      refine hK.out _ _ (fun _ => ?_) (fun hE => ?_)
      · first | exact hQ.out _ hk1 | exact hQ.out _ (Keeps.mono (show Keeps (fun _ => False) W0 _ from (by repeat (first | (with_reducible exact Keeps.refl _ _) | (with_reducible refine Keeps.drew ?_) | (with_reducible refine Keeps.drewN ?_ _) | (with_reducible refine Keeps.alloc ?_ _) | (with_reducible refine Keeps.trans ?_ (by assumption) (fun _ _ h => h))))) (fun _ _ h => h.elim))
      have hS := hE (by kernel_rfl)
      clear hK K hE
      try simp only [Act.put, List.setIfInBounds_toArray, List.set_cons_zero, List.set_cons_succ]
      refine wpAnyT_pure (i := 13) (oi := { dst := some 19, op := Op.nilCheck (Operand.tmp 6), type := 0, pos := "layout.go:64", after := #[⟨0, .data⟩, ⟨0, .phase⟩, ⟨1, .phase⟩, ⟨2, .phase⟩, ⟨3, .phase⟩, ⟨4, .phase⟩, ⟨5, .phase⟩, ⟨6, .phase⟩, ⟨7, .phase⟩, ⟨8, .phase⟩, ⟨9, .phase⟩, ⟨10, .phase⟩, ⟨11, .phase⟩, ⟨12, .phase⟩], guard := none }) (v := ?v1_13_12) rfl (by kernel_rfl) (fun _ _ _ h => h) (Or.inl ⟨by rfl, ?y1_13_12⟩) (fun _ => hS) ?_
      case y1_13_12 => (intro w hSw; go_simp; try with_reducible rfl)
      try simp only [Act.put, List.setIfInBounds_toArray, List.set_cons_zero, List.set_cons_succ]
      refine wpAnyT_pure (i := 14) (oi := { dst := some 20, op := Op.fieldAddr 92 (Operand.tmp 19) 1, type := 0, pos := "layout.go:64", after := #[⟨13, .data⟩, ⟨0, .phase⟩, ⟨1, .phase⟩, ⟨2, .phase⟩, ⟨3, .phase⟩, ⟨4, .phase⟩, ⟨5, .phase⟩, ⟨6, .phase⟩, ⟨7, .phase⟩, ⟨8, .phase⟩, ⟨9, .phase⟩, ⟨10, .phase⟩, ⟨11, .phase⟩, ⟨12, .phase⟩], guard := none }) (v := ?v1_14_13) rfl (by kernel_rfl) (fun _ _ _ h => h) (Or.inl ⟨by rfl, ?y1_14_13⟩) (fun _ => hS) ?_
      case y1_14_13 => (intro w hSw; go_simp; try with_reducible rfl)
      try simp only [Act.put, List.setIfInBounds_toArray, List.set_cons_zero, List.set_cons_succ]
      refine wpAnyT_ready (rs := [15]) (by kernel_rfl) rfl ?_
      refine AllT.cons (o := { dst := none, op := Op.store 22 (Operand.tmp 20) (Operand.tmp 18), type := 0, pos := "layout.go:64", after := #[⟨14, .data⟩, ⟨12, .data⟩, ⟨12, .chain⟩, ⟨0, .phase⟩, ⟨1, .phase⟩, ⟨2, .phase⟩, ⟨3, .phase⟩, ⟨4, .phase⟩, ⟨5, .phase⟩, ⟨6, .phase⟩, ⟨7, .phase⟩, ⟨8, .phase⟩, ⟨9, .phase⟩, ⟨10, .phase⟩, ⟨11, .phase⟩, ⟨12, .phase⟩], guard := none }) rfl (fun K hK => ?_) ?_
      · (have z1 := hb2.cell (i := 1) rfl; have zf := hb2.free 1; have zl := hb2.lt; go_simp)
        refine hK.out _ _ (fun he => Bool.noConfusion (show false = true from he)) (fun hE => ?_)
        clear hK K hE
        try simp only [Act.put, List.setIfInBounds_toArray, List.set_cons_zero, List.set_cons_succ]
        refine wpAnyT_done (by kernel_rfl) ?_ _
        refine NoPanic.normal ?_
        have HTo := Lib.hid (HOut.out _ _ _ hk1 hown1 (hat1.imp id (fun h => Nat.le_trans (Keeps.size (show Keeps (fun _ => False) W0 _ from (by repeat (first | (with_reducible exact Keeps.refl _ _) | (with_reducible refine Keeps.drew ?_) | (with_reducible refine Keeps.drewN ?_ _) | (with_reducible refine Keeps.alloc ?_ _) | (with_reducible refine Keeps.trans ?_ (by assumption) (fun _ _ h => h)))))) h)))
        clear hown1 hk1 hkp1 hat1 hb2
        go_wp2_with fail
        go_end0
        exact ⟨rfl, HTo.out⟩
      exact AllT.nil
    exact AllT.nil
  exact AllT.nil
end Go.Proofs.YtnpgdeioaehahaaDoor
