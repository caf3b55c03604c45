/- unify.fresh: a variable more. -/
import Derived.Test.YthchnabhbpdfgaaDoorUni
import Derived.Test.YthchnabhbpdfgaaDoorMKept
import Derived.Test.YthchnabhbpdfgaaDoorTill
namespace Go.Proofs.YthchnabhbpdfgaaDoor
open Go.RowKit Go.Shelf

theorem infoTyF : (Tryd.prog.info? 24).map (fun i => (i.zero, i.size, i.bytes)) = some (some (.agg #[.int .i64 0, .string ⟨#[]⟩, .int .i64 0, .slice none 0 0]), 4, 56) := by kernel_rfl
/-- A variable more. -/
theorem Uni.more {F : Nat → Prop} {W w : World} {p g : Nat} {n cap : Nat} {σ : List Ty} {xs : List Value} (hU : Uni F W p (.slice (some ⟨g, 0, none⟩) n cap) g σ) (hn : σ.length = n) (hn2 : n ≤ 5000) (hxs : RpAll W F (σ.map tyD) xs)
    {g1 cap1 : Nat} (hk : Keeps (fun i => (Value.slice (some ⟨g, 0, none⟩) n cap).ownBlock = some i ∨ i = p ∨ i = g1) W w) (hb : Blk w p 56 [.slice (some ⟨g1, 0, none⟩) (n + 1) cap1])
    (hown : w.ownsRow 0 24 4 (.slice (some ⟨g1, 0, none⟩) (n + 1) cap1) (n + 1) (xs ++ [.int .i64 0, .string ⟨#[]⟩, .int .i64 (n : Int), .slice none 0 0])) (hat : (Value.slice (some ⟨g, 0, none⟩) n cap).ownBlock = some g1 ∨ W.heap.size ≤ g1) :
    UniNew F F W p g w (.slice (some ⟨g1, 0, none⟩) (n + 1) cap1) g1 (σ ++ [varT (n : Int)]) := by
  have hat' : g1 = g ∨ W.heap.size ≤ g1 := hat.imp (fun h => by simpa [Value.ownBlock] using h.symm) id
  obtain ⟨g2, cap2, cur, hv, _, hgc, hnc, hcm', hcs, hct⟩ : ∃ g2 cap2 cur, Value.slice (some ⟨g1, 0, none⟩) (n + 1) cap1 = .slice (some ⟨g2, 0, none⟩) (n + 1) cap2 ∧ 0 ≤ g2 ∧ w.heap[g2]? = some (.cells cur 24 (0, 0)) ∧ n + 1 ≤ cap2 ∧ cap2 ≤ maxLen ∧ cur.size = cap2 * 4 ∧ cur.toList.take ((n + 1) * 4) = xs ++ [.int .i64 0, .string ⟨#[]⟩, .int .i64 (n : Int), .slice none 0 0] := by
    rcases hown.2 with ⟨_, h⟩ | h
    · omega
    · exact h
  simp only [Value.slice.injEq, Option.some.injEq, Addr.mk.injEq, and_true, true_and] at hv
  obtain ⟨rfl, rfl⟩ := hv
  have hpl := hU.blk.lt
  have hkX : ∀ i, F i → ¬ ((Value.slice (some ⟨g, 0, none⟩) n cap).ownBlock = some i ∨ i = p ∨ i = g1) := fun i hi h => by
    have h1 := hU.im i hi
    rcases h with h | h | h
    · exact h1.2.2 (by simpa [Value.ownBlock] using h.symm)
    · exact h1.2.1 h
    · rcases hat' with h2 | h2
      · exact h1.2.2 (h.trans h2)
      · have := h1.1; omega
  have hG : Blk w g1 24 cur.toList := by unfold Blk; rw [hgc]
  have hne : g1 ≠ p := by
    rcases hat' with h | h
    · rw [h]; exact hU.ne
    · omega
  have hin : SubIn (σ ++ [varT (n : Int)]) := fun x hx => by
    rcases List.mem_append.1 hx with hx | hx
    · exact VIn.mono (fun v hv => hU.inn x hx v hv) (by simp)
    · rw [List.mem_singleton.1 hx]
      intro u hu
      rw [freeP_var rfl, List.mem_singleton] at hu
      have hu : u = (n : Int) := hu
      rw [hu]; simp [hn]; omega
  refine ⟨⟨hb, ⟨cap1, cur.toList, by rw [List.length_append, hn]; rfl, hG, by rw [List.length_append, hn]; exact hnc, hcm', by rw [Array.length_toList, hcs], ?_⟩, hne, hin, fun i hi => Im.up hk hat' (hU.im i hi)⟩, hk.mono (Y := fun b => b = p ∨ b = g) (fun i hi h => ?_), hat', fun _ h => h, fun _ h => .inl h⟩
  · rw [List.length_append, hn, List.length_singleton, hct, List.map_append]
    refine (hxs.frame (fun _ h => h) (fun b off u hb2 hc => hk.cell hc (hkX b hb2))).append ?_
    simp only [List.map_cons, List.map_nil]
    exact RpAll.one (tyD.rp.2 ⟨.slice none 0 0, rfl, varT_ok (wfI_nat (by omega))⟩)
  · rcases h with h | h | h
    · exact .inr (by simpa [Value.ownBlock] using h.symm)
    · exact .inl h
    · rcases hat' with h2 | h2
      · exact .inr (h.trans h2)
      · omega
set_option maxRecDepth 100000 in
set_option maxHeartbeats 8000000 in
theorem fresh_any (F : Nat → Prop) (W : World) (p : Nat) (sv : Value) (g : Nat) (σ : List Ty) (hU : Uni F W p sv g σ) (hn : σ.length ≤ 5000) :
    Calls Tryd.prog 51 #[.pointer (some ⟨p, 0, none⟩)] W (fun e w' => ∃ av sv' g', e = .returned (tyV (varT (σ.length : Int)) av) ∧ TyC w' F (varT (σ.length : Int)) av ∧ UniNew F F W p g w' sv' g' (σ ++ [varT (σ.length : Int)])) := by
  obtain ⟨i0, hi0, hz0, hz1, hz2⟩ := info_parts infoTyF
  obtain ⟨cap, cur, rfl, hbl, h1, h2, h3, h4⟩ := hU.row
  obtain ⟨n, hnn⟩ : ∃ n, σ.length = n := ⟨_, rfl⟩
  rw [hnn] at hU hn h1 h4 ⊢
  obtain ⟨xs, hxs⟩ : ∃ xs, cur.take (n * 4) = xs := ⟨_, rfl⟩
  rw [hxs] at h4
  obtain ⟨b0, hb0⟩ : ∃ b0, W.heap.size = b0 := ⟨_, rfl⟩
  obtain ⟨W0, hW0⟩ : ∃ W0, W.alloc (.cells #[.int .i64 0, .string ⟨#[]⟩, .int .i64 0, .slice none 0 0] 24) = W0 := ⟨_, rfl⟩
  have hk0 : Keeps (fun _ => False) W W0 := by rw [← hW0]; exact (Keeps.refl _ _).alloc _
  have hB0 : Blk W0 b0 24 [.int .i64 0, .string ⟨#[]⟩, .int .i64 0, .slice none 0 0] := by rw [← hW0, ← hb0]; exact Blk.new W _ [_, _, _, _]
  have hU0 := hU.keeps hk0 (fun h => h) (fun h => h) (fun _ _ h => h)
  have h40 := h4.frame (F := F) (fun _ h => h) (fun b off u hb hc => hk0.cell hc (fun h => h))
  have hbl0 := hbl.keeps hk0 (fun h => h)
  have hOwn : W0.ownsRow 0 24 4 (.slice (some ⟨g, 0, none⟩) n cap) n xs :=
    ⟨by rw [← hxs, List.length_take, h3]; omega, .inr ⟨g, cap, cur.toArray, rfl, Nat.zero_le _, hbl0, h1, h2, by simp [h3], by simpa using hxs⟩⟩
  have HFl : Hid (xs.length = n * 4) := hOwn.1
  have HMq : Hid (n + 1 ≤ maxLen) := by show _ ≤ _; unfold maxLen; omega
  have HBq : Hid ((n + 1) * 56 ≤ 140737488355328) := by show _ ≤ _; omega
  have hgp := hU.ne
  have hpl := hU.blk.lt
  have hgl := hU.glt
  have HBo : Hid (∀ X, Keeps (fun i => (Value.slice (some ⟨g, 0, none⟩) n cap).ownBlock = some i) W0 X → Blk X p 56 [(Value.slice (some ⟨g, 0, none⟩) n cap)]) := fun X hk => hU0.blk.keeps hk (fun e => hgp (by simpa [Value.ownBlock] using e))
  have HNg : Hid (∀ i, ((Value.slice (some ⟨g, 0, none⟩) n cap).ownBlock = some i ∨ W0.heap.size ≤ i) → ¬ i = p) := fun i hi e => by
    subst e
    rcases hi with h | h
    · exact hgp (by simpa [Value.ownBlock] using h)
    · have := hk0.size; omega
  have HVar : Hid (∀ X, Calls Tryd.prog 23 #[.int .i64 (n : Int)] X fun e w' => e = .returned (.agg #[.int .i64 0, .string ⟨#[]⟩, .int .i64 (n : Int), .slice none 0 0]) ∧ Keeps (fun _ => False) X w') := fun X => var_any (n : Int) X
  have HPut : Hid (∀ (w3 : World) (g1 cap1 : Nat), Keeps (fun i => (Value.slice (some ⟨g, 0, none⟩) n cap).ownBlock = some i ∨ i = p ∨ i = g1) W0 w3 → Blk w3 p 56 [.slice (some ⟨g1, 0, none⟩) (n + 1) cap1] → w3.ownsRow 0 24 4 (.slice (some ⟨g1, 0, none⟩) (n + 1) cap1) (n + 1) (xs ++ [.int .i64 0, .string ⟨#[]⟩, .int .i64 (n : Int), .slice none 0 0]) → ((Value.slice (some ⟨g, 0, none⟩) n cap).ownBlock = some g1 ∨ W0.heap.size ≤ g1) →
      UniNew F F W0 p g w3 (.slice (some ⟨g1, 0, none⟩) (n + 1) cap1) g1 (σ ++ [varT (n : Int)])) := fun w3 g1 cap1 q1 q2 q3 q4 => Uni.more hU0 hnn hn h40 q1 q2 q3 q4
  have hQ : Hid (∀ X, Keeps (fun i => (Value.slice (some ⟨g, 0, none⟩) n cap).ownBlock = some i) W0 X → (X.cell? ⟨p, 0, none⟩ = some (Value.slice (some ⟨g, 0, none⟩) n cap))) := fun X hk => (HBo.out X hk).cell (i := 0) rfl
  have kn0 : (0 : Int) ≤ (n : Int) := by omega
  have kn1 : (n : Int) < (n : Int) + 1 := by omega
  have kn3 : (n : Int) ≤ 5000 := by omega
  have kn4 : IntKind.i64.wrap ((n : Int) + 1 - 1) = (n : Int) := by rw [IntKind.wrap_i64]; omega
  have kn5 : IntKind.i64.wrap (n : Int) = (n : Int) := by rw [IntKind.wrap_i64]; omega
  have kn6 : n < n + 1 := Nat.lt_succ_self n
  have hpb : p ≠ b0 := by omega
  have hgb : g ≠ b0 := by omega
  have HOwn := Lib.hid hOwn
  have HB0 := Lib.hid hB0
  have HU := Lib.hid hU
  have HK0 := Lib.hid hk0
  have HW0 := Lib.hid hW0
  have HBn := Lib.hid hb0
  have HN0 := Lib.hid hnn
  have HN1 := Lib.hid hn
  clear hOwn hB0 hU hU0 hk0 hW0 hb0 hbl hbl0 h1 h2 h3 h4 h40 hxs hgp hnn hn hpl hgl
  go_enter Tryd.func51, Tryd.ntmps51
  go_upto_region 1 with (fail)
  rw [HW0.out, HBn.out]
  go_cut [] from 3 to 18 (fun wd => ∃ g1 cap1, UniNew F F W0 p g wd (.slice (some ⟨g1, 0, none⟩) (n + 1) cap1) g1 (σ ++ [varT (n : Int)]))
  case first =>
    refine wp_region_noPanic ?_
    refine wp_region_till [14, 17] (fun X => X.cell? ⟨p, 0, none⟩ = some (Value.slice (some ⟨g, 0, none⟩) n cap)) (by kernel_rfl) ?_ (fun hE => ?_)
    · first | exact hQ.out _ hk1 | exact hQ.out _ (Keeps.mono (show Keeps (fun _ => False) W0 _ from (by repeat (first | (with_reducible exact Keeps.refl _ _) | (with_reducible assumption) | (with_reducible refine Keeps.drew ?_) | (with_reducible refine Keeps.drewN ?_ _) | (with_reducible refine Keeps.alloc ?_ _) | (with_reducible refine Keeps.trans ?_ (by assumption) (fun _ _ h => h))))) (fun _ _ h => h.elim))
    have hS := hE (by kernel_rfl)
    refine wpAnyT_pure (i := 0) (oi := { dst := some 3, op := Op.move (Operand.tmp 0), type := 53, pos := "unify.go:127", after := #[], guard := none }) (v := ?v1_0_1) rfl (by kernel_rfl) (fun _ _ _ h => h) (Or.inl ⟨by rfl, ?y1_0_1⟩) (fun _ => hS) ?_
    case y1_0_1 => (intro w hSw; go_simp; try with_reducible rfl)
    try simp only [Act.put, List.setIfInBounds_toArray, List.set_cons_zero, List.set_cons_succ]
    refine wpAnyT_pure (i := 1) (oi := { dst := some 4, op := Op.nilCheck (Operand.tmp 3), type := 0, pos := "unify.go:127", after := #[⟨0, .data⟩], guard := none }) (v := ?v1_1_2) rfl (by kernel_rfl) (fun _ _ _ h => h) (Or.inl ⟨by rfl, ?y1_1_2⟩) (fun _ => hS) ?_
    case y1_1_2 => (intro w hSw; go_simp; try with_reducible rfl)
    try simp only [Act.put, List.setIfInBounds_toArray, List.set_cons_zero, List.set_cons_succ]
    refine wpAnyT_pure (i := 2) (oi := { dst := some 5, op := Op.fieldAddr 56 (Operand.tmp 4) 0, type := 0, pos := "unify.go:127", after := #[⟨1, .data⟩], guard := none }) (v := ?v1_2_3) rfl (by kernel_rfl) (fun _ _ _ h => h) (Or.inl ⟨by rfl, ?y1_2_3⟩) (fun _ => hS) ?_
    case y1_2_3 => (intro w hSw; go_simp; try with_reducible rfl)
    try simp only [Act.put, List.setIfInBounds_toArray, List.set_cons_zero, List.set_cons_succ]
    refine wpAnyT_take (i := 3) (oi := { dst := some 6, op := Op.load 25 (Operand.tmp 5), type := 25, pos := "unify.go:127", after := #[⟨2, .data⟩], guard := none }) (v := ?v1_3_4) rfl (by kernel_rfl) (fun _ _ _ h => h) (Or.inl ⟨by rfl, ?y1_3_4⟩) hS ?_
    case y1_3_4 => (intro w hSw; (try dsimp only at hSw); go_simp; try with_reducible rfl)
    try simp only [Act.put, List.setIfInBounds_toArray, List.set_cons_zero, List.set_cons_succ]
    refine wpAnyT_pure (i := 4) (oi := { dst := some 7, op := Op.move (Operand.tmp 0), type := 53, pos := "unify.go:127", after := #[], guard := none }) (v := ?v1_4_5) rfl (by kernel_rfl) (fun _ _ _ h => h) (Or.inl ⟨by rfl, ?y1_4_5⟩) (fun _ => hS) ?_
    case y1_4_5 => (intro w hSw; go_simp; try with_reducible rfl)
    try simp only [Act.put, List.setIfInBounds_toArray, List.set_cons_zero, List.set_cons_succ]
    refine wpAnyT_pure (i := 5) (oi := { dst := some 8, op := Op.nilCheck (Operand.tmp 7), type := 0, pos := "unify.go:127", after := #[⟨4, .data⟩], guard := none }) (v := ?v1_5_6) rfl (by kernel_rfl) (fun _ _ _ h => h) (Or.inl ⟨by rfl, ?y1_5_6⟩) (fun _ => hS) ?_
    case y1_5_6 => (intro w hSw; go_simp; try with_reducible rfl)
    try simp only [Act.put, List.setIfInBounds_toArray, List.set_cons_zero, List.set_cons_succ]
    refine wpAnyT_pure (i := 6) (oi := { dst := some 9, op := Op.fieldAddr 56 (Operand.tmp 8) 0, type := 0, pos := "unify.go:127", after := #[⟨5, .data⟩], guard := none }) (v := ?v1_6_7) rfl (by kernel_rfl) (fun _ _ _ h => h) (Or.inl ⟨by rfl, ?y1_6_7⟩) (fun _ => hS) ?_
    case y1_6_7 => (intro w hSw; go_simp; try with_reducible rfl)
    try simp only [Act.put, List.setIfInBounds_toArray, List.set_cons_zero, List.set_cons_succ]
    refine wpAnyT_take (i := 7) (oi := { dst := some 10, op := Op.load 25 (Operand.tmp 9), type := 25, pos := "unify.go:127", after := #[⟨6, .data⟩], guard := none }) (v := ?v1_7_8) rfl (by kernel_rfl) (fun _ _ _ h => h) (Or.inl ⟨by rfl, ?y1_7_8⟩) hS ?_
    case y1_7_8 => (intro w hSw; (try dsimp only at hSw); go_simp; try with_reducible rfl)
    try simp only [Act.put, List.setIfInBounds_toArray, List.set_cons_zero, List.set_cons_succ]
    refine wpAnyT_pure (i := 8) (oi := { dst := some 11, op := Op.call { callee := Callee.builtin Builtin.len, args := #[Operand.tmp 10], argTypes := #[25] }, type := 3, pos := "unify.go:127", after := #[⟨7, .data⟩], guard := none }) (v := ?v1_8_9) rfl (by kernel_rfl) (fun _ _ _ h => h) (Or.inl ⟨by rfl, ?y1_8_9⟩) (fun _ => hS) ?_
    case y1_8_9 => (intro w hSw; go_simp; try with_reducible rfl)
    try simp only [Act.put, List.setIfInBounds_toArray, List.set_cons_zero, List.set_cons_succ]
    refine wpAnyT_pure (i := 10) (oi := { dst := some 13, op := Op.call { callee := Callee.builtin Builtin.len, args := #[Operand.tmp 6], argTypes := #[25] }, type := 3, pos := "unify.go:127", after := #[⟨3, .data⟩], guard := none }) (v := ?v1_10_10) rfl (by kernel_rfl) (fun _ _ _ h => h) (Or.inl ⟨by rfl, ?y1_10_10⟩) (fun _ => hS) ?_
    case y1_10_10 => (intro w hSw; go_simp; try with_reducible rfl)
    try simp only [Act.put, List.setIfInBounds_toArray, List.set_cons_zero, List.set_cons_succ]
    refine wpAnyT_ready (rs := [9, 11]) (by kernel_rfl) rfl ?_
    refine AllT.cons (o := { dst := some 12, op := Op.call { callee := Callee.value (Operand.func 23), args := #[Operand.tmp 11], argTypes := #[3] }, type := 24, pos := "unify.go:127", after := #[⟨8, .data⟩], guard := none }) rfl (fun K hK => ?_) ?_
    · (go_simp; go_at_call 23; refine (HVar.out _).mono ?_; rintro e wv ⟨rfl, hkv⟩; go_wp2_with fail)
      refine hK.out _ _ (fun _ => ?_) (fun hE => ?_)
      · first | exact hQ.out _ hk1 | exact hQ.out _ (Keeps.mono (show Keeps (fun _ => False) W0 _ from (by repeat (first | (with_reducible exact Keeps.refl _ _) | (with_reducible assumption) | (with_reducible refine Keeps.drew ?_) | (with_reducible refine Keeps.drewN ?_ _) | (with_reducible refine Keeps.alloc ?_ _) | (with_reducible refine Keeps.trans ?_ (by assumption) (fun _ _ h => h))))) (fun _ _ h => h.elim))
      have hS := hE (by kernel_rfl)
      clear hK K hE
      try simp only [Act.put, List.setIfInBounds_toArray, List.set_cons_zero, List.set_cons_succ]
      refine wpAnyT_ready (rs := [11]) (by kernel_rfl) rfl ?_
      refine AllT.cons (o := { dst := some 14, op := Op.buildSlice 25 1 #[(0, Operand.const (Value.agg #[Value.int IntKind.i64 0, Value.string { data := #[] }, Value.int IntKind.i64 0, Value.slice none 0 0]))], type := 25, pos := "unify.go:127", after := #[], guard := none }) rfl (fun K hK => ?_) ?_
      · go_simp
        refine hK.out _ _ (fun _ => ?_) (fun hE => ?_)
        · first | exact hQ.out _ hk1 | exact hQ.out _ (Keeps.mono (show Keeps (fun _ => False) W0 _ from (by repeat (first | (with_reducible exact Keeps.refl _ _) | (with_reducible assumption) | (with_reducible refine Keeps.drew ?_) | (with_reducible refine Keeps.drewN ?_ _) | (with_reducible refine Keeps.alloc ?_ _) | (with_reducible refine Keeps.trans ?_ (by assumption) (fun _ _ h => h))))) (fun _ _ h => h.elim))
        have hS := hE (by kernel_rfl)
        clear hK K hE
        try simp only [Act.put, List.setIfInBounds_toArray, List.set_cons_zero, List.set_cons_succ]
        refine wpAnyT_ready (rs := [12]) (by kernel_rfl) rfl ?_
        refine AllT.cons (o := { dst := some 15, op := Op.call { callee := Callee.builtin Builtin.append, args := #[Operand.tmp 6, Operand.tmp 14], argTypes := #[25, 25] }, type := 25, pos := "unify.go:127", after := #[⟨3, .data⟩, ⟨11, .data⟩, ⟨9, .chain⟩, ⟨0, .phase⟩, ⟨1, .phase⟩, ⟨2, .phase⟩, ⟨3, .phase⟩, ⟨4, .phase⟩, ⟨5, .phase⟩, ⟨6, .phase⟩, ⟨7, .phase⟩, ⟨8, .phase⟩, ⟨9, .phase⟩, ⟨10, .phase⟩, ⟨11, .phase⟩], guard := none }) rfl (fun K hK => ?_) ?_
        · (refine step_append_kept_m (W0 := W0) rfl (.tmp 6) (.tmp 14) 25 rfl 0 24 i0 _ 4 56 Tryd.underlying25 hi0 hz0 hz1 hz2 rfl (by decide) (Value.slice (some ⟨g, 0, none⟩) n cap) n xs rfl HOwn.out (by repeat (first | (with_reducible exact Keeps.refl _ _) | (with_reducible assumption) | (with_reducible refine Keeps.drew ?_) | (with_reducible refine Keeps.drewN ?_ _) | (with_reducible refine Keeps.alloc ?_ _) | (with_reducible refine Keeps.trans ?_ (by assumption) (fun _ _ h => h)))) _ 1 _ #[.int .i64 0, .string ⟨#[]⟩, .int .i64 0, .slice none 0 0] rfl (by decide) rfl (by first | exact heap_new_at (by simp) | exact heap_new_at rfl | exact Keeps.heap hkv (by first | exact heap_new_at rfl | exact heap_new_at (by simp)) (fun h => h)) (by simp [Value.oneCell']) HMq.out HBq.out (Nat.zero_le _) ?_; intro g1 cap1 w2 hown1 hk1 hkp1 hat1; have hb2 := HBo.out _ hk1; have hat1' : (Value.slice (some ⟨g, 0, none⟩) n cap).ownBlock = some g1 ∨ W0.heap.size ≤ g1 := hat1.imp id (fun h => Nat.le_trans (Keeps.size (show Keeps (fun _ => False) W0 _ from (by repeat (first | (with_reducible exact Keeps.refl _ _) | (with_reducible assumption) | (with_reducible refine Keeps.drew ?_) | (with_reducible refine Keeps.drewN ?_ _) | (with_reducible refine Keeps.alloc ?_ _) | (with_reducible refine Keeps.trans ?_ (by assumption) (fun _ _ h => h)))))) h); have ng := HNg.out g1 hat1')
          refine hK.out _ _ (fun _ => ?_) (fun hE => ?_)
          · first | exact hQ.out _ hk1 | exact hQ.out _ (Keeps.mono (show Keeps (fun _ => False) W0 _ from (by repeat (first | (with_reducible exact Keeps.refl _ _) | (with_reducible assumption) | (with_reducible refine Keeps.drew ?_) | (with_reducible refine Keeps.drewN ?_ _) | (with_reducible refine Keeps.alloc ?_ _) | (with_reducible refine Keeps.trans ?_ (by assumption) (fun _ _ h => h))))) (fun _ _ h => h.elim))
          have hS := hE (by kernel_rfl)
          clear hK K hE
          try simp only [Act.put, List.setIfInBounds_toArray, List.set_cons_zero, List.set_cons_succ]
          refine wpAnyT_pure (i := 13) (oi := { dst := some 16, op := Op.indexAddr 25 (Operand.tmp 15) (Operand.tmp 13), type := 0, pos := "unify.go:127", after := #[⟨12, .data⟩, ⟨10, .data⟩, ⟨0, .phase⟩, ⟨1, .phase⟩, ⟨2, .phase⟩, ⟨3, .phase⟩, ⟨4, .phase⟩, ⟨5, .phase⟩, ⟨6, .phase⟩, ⟨7, .phase⟩, ⟨8, .phase⟩, ⟨9, .phase⟩, ⟨10, .phase⟩, ⟨11, .phase⟩, ⟨12, .phase⟩, ⟨17, .gcOnly .appendInPlace⟩], guard := none }) (v := ?v1_13_11) rfl (by kernel_rfl) (fun _ _ _ h => h) (Or.inl ⟨by rfl, ?y1_13_11⟩) (fun _ => hS) ?_
          case y1_13_11 => (intro w hSw; go_simp; try with_reducible rfl)
          try simp only [Act.put, List.setIfInBounds_toArray, List.set_cons_zero, List.set_cons_succ]
          refine wpAnyT_pure (i := 15) (oi := { dst := some 17, op := Op.nilCheck (Operand.tmp 3), type := 0, pos := "unify.go:127", after := #[⟨0, .data⟩, ⟨0, .phase⟩, ⟨1, .phase⟩, ⟨2, .phase⟩, ⟨3, .phase⟩, ⟨4, .phase⟩, ⟨5, .phase⟩, ⟨6, .phase⟩, ⟨7, .phase⟩, ⟨8, .phase⟩, ⟨9, .phase⟩, ⟨10, .phase⟩, ⟨11, .phase⟩, ⟨12, .phase⟩, ⟨13, .textOnly .appendInPlace⟩, ⟨14, .textOnly .appendInPlace⟩], guard := none }) (v := ?v1_15_12) rfl (by kernel_rfl) (fun _ _ _ h => h) (Or.inl ⟨by rfl, ?y1_15_12⟩) (fun _ => hS) ?_
          case y1_15_12 => (intro w hSw; go_simp; try with_reducible rfl)
          try simp only [Act.put, List.setIfInBounds_toArray, List.set_cons_zero, List.set_cons_succ]
          refine wpAnyT_pure (i := 16) (oi := { dst := some 18, op := Op.fieldAddr 56 (Operand.tmp 17) 0, type := 0, pos := "unify.go:127", after := #[⟨15, .data⟩, ⟨0, .phase⟩, ⟨1, .phase⟩, ⟨2, .phase⟩, ⟨3, .phase⟩, ⟨4, .phase⟩, ⟨5, .phase⟩, ⟨6, .phase⟩, ⟨7, .phase⟩, ⟨8, .phase⟩, ⟨9, .phase⟩, ⟨10, .phase⟩, ⟨11, .phase⟩, ⟨12, .phase⟩, ⟨13, .textOnly .appendInPlace⟩, ⟨14, .textOnly .appendInPlace⟩], guard := none }) (v := ?v1_16_13) rfl (by kernel_rfl) (fun _ _ _ h => h) (Or.inl ⟨by rfl, ?y1_16_13⟩) (fun _ => hS) ?_
          case y1_16_13 => (intro w hSw; go_simp; try with_reducible rfl)
          try simp only [Act.put, List.setIfInBounds_toArray, List.set_cons_zero, List.set_cons_succ]
          refine wpAnyT_ready (rs := [14, 17]) (by kernel_rfl) rfl ?_
          refine AllT.cons (o := { dst := none, op := Op.store 24 (Operand.tmp 16) (Operand.tmp 12), type := 0, pos := "unify.go:127", after := #[⟨13, .data⟩, ⟨9, .data⟩, ⟨12, .chain⟩, ⟨0, .phase⟩, ⟨1, .phase⟩, ⟨2, .phase⟩, ⟨3, .phase⟩, ⟨4, .phase⟩, ⟨5, .phase⟩, ⟨6, .phase⟩, ⟨7, .phase⟩, ⟨8, .phase⟩, ⟨9, .phase⟩, ⟨10, .phase⟩, ⟨11, .phase⟩, ⟨12, .phase⟩, ⟨17, .gcOnly .appendInPlace⟩], guard := none }) rfl (fun K hK => ?_) ?_
          · (have fc := four_cellsM (xs := xs) (ys := []) (m := n * 4) (a := .int .i64 0) (b := .string ⟨#[]⟩) (c := .int .i64 0) (d := .slice none 0 0) (by rw [List.append_nil]; exact hown1) HFl.out; have y0 := fc.1; have y1 := fc.2.1; have y2 := fc.2.2.1; have y3 := fc.2.2.2.1; have u0 := hown1.frozenAt (n * 4); have u1 := hown1.frozenAt (n * 4 + 1); have u2 := hown1.frozenAt (n * 4 + 2); have u3 := hown1.frozenAt (n * 4 + 3); go_simp)
            refine hK.out _ _ (fun he => Bool.noConfusion (show false = true from he)) (fun hE => ?_)
            clear hK K hE
            try simp only [Act.put, List.setIfInBounds_toArray, List.set_cons_zero, List.set_cons_succ]
            refine wpAnyT_ready (rs := [17]) (by kernel_rfl) rfl ?_
            refine AllT.cons (o := { dst := none, op := Op.store 25 (Operand.tmp 18) (Operand.tmp 15), type := 0, pos := "unify.go:127", after := #[⟨16, .data⟩, ⟨12, .data⟩, ⟨12, .chain⟩, ⟨14, .textOnly .appendInPlace⟩, ⟨0, .phase⟩, ⟨1, .phase⟩, ⟨2, .phase⟩, ⟨3, .phase⟩, ⟨4, .phase⟩, ⟨5, .phase⟩, ⟨6, .phase⟩, ⟨7, .phase⟩, ⟨8, .phase⟩, ⟨9, .phase⟩, ⟨10, .phase⟩, ⟨11, .phase⟩, ⟨12, .phase⟩, ⟨13, .textOnly .appendInPlace⟩, ⟨14, .textOnly .appendInPlace⟩], guard := none }) rfl (fun K hK => ?_) ?_
            · (have hs0 : Keeps (· = g1) w2 ((((w2.setCell ⟨g1, n * 4, none⟩ (.int .i64 0)).setCell ⟨g1, n * 4 + 1, none⟩ (.string ⟨#[]⟩)).setCell ⟨g1, n * 4 + 2, none⟩ (.int .i64 (n : Int))).setCell ⟨g1, n * 4 + 3, none⟩ (.slice none 0 0)) := ((((Keeps.refl (· = g1) w2).setCell (p := ⟨g1, n * 4, none⟩) (fun _ => rfl) _).setCell (p := ⟨g1, n * 4 + 1, none⟩) (fun _ => rfl) _).setCell (p := ⟨g1, n * 4 + 2, none⟩) (fun _ => rfl) _).setCell (p := ⟨g1, n * 4 + 3, none⟩) (fun _ => rfl) _; have ho0 := own_four (xs := xs) (ys := []) (m := n * 4) (u0 := .int .i64 0) (u1 := .string ⟨#[]⟩) (u2 := .int .i64 (n : Int)) (u3 := .slice none 0 0) (by rw [List.append_nil]; exact hown1) HFl.out; have hb0_ := hb2.keeps hs0 (fun e => ng e.symm); have z0 := hb0_.cell (i := 0) rfl; have z1 := hb0_.free 0; go_simp)
              refine hK.out _ _ (fun he => Bool.noConfusion (show false = true from he)) (fun hE => ?_)
              clear hK K hE
              try simp only [Act.put, List.setIfInBounds_toArray, List.set_cons_zero, List.set_cons_succ]
              refine wpAnyT_done (by kernel_rfl) ?_ _
              refine NoPanic.normal ?_
              have hs0 : Keeps (· = g1) w2 ((((w2.setCell ⟨g1, n * 4, none⟩ (.int .i64 0)).setCell ⟨g1, n * 4 + 1, none⟩ (.string ⟨#[]⟩)).setCell ⟨g1, n * 4 + 2, none⟩ (.int .i64 (n : Int))).setCell ⟨g1, n * 4 + 3, none⟩ (.slice none 0 0)) := ((((Keeps.refl (· = g1) w2).setCell (p := ⟨g1, n * 4, none⟩) (fun _ => rfl) _).setCell (p := ⟨g1, n * 4 + 1, none⟩) (fun _ => rfl) _).setCell (p := ⟨g1, n * 4 + 2, none⟩) (fun _ => rfl) _).setCell (p := ⟨g1, n * 4 + 3, none⟩) (fun _ => rfl) _
              have ho0 := own_four (xs := xs) (ys := []) (m := n * 4) (u0 := .int .i64 0) (u1 := .string ⟨#[]⟩) (u2 := .int .i64 (n : Int)) (u3 := .slice none 0 0) (by rw [List.append_nil]; exact hown1) HFl.out
              have hb0_ := hb2.keeps hs0 (fun e => ng e.symm)
              have hs1 : Keeps (· = p) ((((w2.setCell ⟨g1, n * 4, none⟩ (.int .i64 0)).setCell ⟨g1, n * 4 + 1, none⟩ (.string ⟨#[]⟩)).setCell ⟨g1, n * 4 + 2, none⟩ (.int .i64 (n : Int))).setCell ⟨g1, n * 4 + 3, none⟩ (.slice none 0 0)) (((((w2.setCell ⟨g1, n * 4, none⟩ (.int .i64 0)).setCell ⟨g1, n * 4 + 1, none⟩ (.string ⟨#[]⟩)).setCell ⟨g1, n * 4 + 2, none⟩ (.int .i64 (n : Int))).setCell ⟨g1, n * 4 + 3, none⟩ (.slice none 0 0)).setCell ⟨p, 0, none⟩ (.slice (some ⟨g1, 0, none⟩) (n + 1) cap1)) := (Keeps.refl (· = p) _).setCell (p := ⟨p, 0, none⟩) (fun _ => rfl) _
              have ho1 := own_keeps ho0 hs1 (fun i hi e => ng ((show g1 = i from by simpa [Value.ownBlock] using hi).trans e))
              have hb1_ := hb0_.set_ 0 (.slice (some ⟨g1, 0, none⟩) (n + 1) cap1)
              have hof : World.ownsRow (((((w2.setCell ⟨g1, n * 4, none⟩ (.int .i64 0)).setCell ⟨g1, n * 4 + 1, none⟩ (.string ⟨#[]⟩)).setCell ⟨g1, n * 4 + 2, none⟩ (.int .i64 (n : Int))).setCell ⟨g1, n * 4 + 3, none⟩ (.slice none 0 0)).setCell ⟨p, 0, none⟩ (.slice (some ⟨g1, 0, none⟩) (n + 1) cap1)) 0 24 4 (.slice (some ⟨g1, 0, none⟩) (n + 1) cap1) (n + 1) (xs ++ [.int .i64 0, .string ⟨#[]⟩, .int .i64 (n : Int), .slice none 0 0]) := by first | exact ho1 | (have h := ho1; rw [List.append_nil] at h; exact h)
              have HTo := Lib.hid (HPut.out _ g1 cap1 (((hk1.mono (Y := fun i => (Value.slice (some ⟨g, 0, none⟩) n cap).ownBlock = some i ∨ i = p ∨ i = g1) (fun _ _ h => .inl h)).trans hs0 (fun i _ h => .inr (.inr h))).trans hs1 (fun i _ h => .inr (.inl h))) hb1_ hof hat1')
              clear hown1 hk1 hkp1 hat1 hb2 ng hof hat1' hs0 ho0 hb0_ hs1 ho1 hb1_
              go_wp2_with fail
              go_meet
              exact ⟨_, _, HTo.out⟩
            exact AllT.nil
          refine AllT.cons (o := { dst := none, op := Op.store 25 (Operand.tmp 18) (Operand.tmp 15), type := 0, pos := "unify.go:127", after := #[⟨16, .data⟩, ⟨12, .data⟩, ⟨12, .chain⟩, ⟨14, .textOnly .appendInPlace⟩, ⟨0, .phase⟩, ⟨1, .phase⟩, ⟨2, .phase⟩, ⟨3, .phase⟩, ⟨4, .phase⟩, ⟨5, .phase⟩, ⟨6, .phase⟩, ⟨7, .phase⟩, ⟨8, .phase⟩, ⟨9, .phase⟩, ⟨10, .phase⟩, ⟨11, .phase⟩, ⟨12, .phase⟩, ⟨13, .textOnly .appendInPlace⟩, ⟨14, .textOnly .appendInPlace⟩], guard := none }) rfl (fun K hK => ?_) ?_
          · (have z0 := hb2.cell (i := 0) rfl; have z1 := hb2.free 0; go_simp)
            refine hK.out _ _ (fun he => Bool.noConfusion (show false = true from he)) (fun hE => ?_)
            clear hK K hE
            try simp only [Act.put, List.setIfInBounds_toArray, List.set_cons_zero, List.set_cons_succ]
            refine wpAnyT_ready (rs := [14]) (by kernel_rfl) rfl ?_
            refine AllT.cons (o := { dst := none, op := Op.store 24 (Operand.tmp 16) (Operand.tmp 12), type := 0, pos := "unify.go:127", after := #[⟨13, .data⟩, ⟨9, .data⟩, ⟨12, .chain⟩, ⟨0, .phase⟩, ⟨1, .phase⟩, ⟨2, .phase⟩, ⟨3, .phase⟩, ⟨4, .phase⟩, ⟨5, .phase⟩, ⟨6, .phase⟩, ⟨7, .phase⟩, ⟨8, .phase⟩, ⟨9, .phase⟩, ⟨10, .phase⟩, ⟨11, .phase⟩, ⟨12, .phase⟩, ⟨17, .gcOnly .appendInPlace⟩], guard := none }) rfl (fun K hK => ?_) ?_
            · (have hs0 : Keeps (· = p) w2 (w2.setCell ⟨p, 0, none⟩ (.slice (some ⟨g1, 0, none⟩) (n + 1) cap1)) := (Keeps.refl (· = p) _).setCell (p := ⟨p, 0, none⟩) (fun _ => rfl) _; have ho0 := own_keeps hown1 hs0 (fun i hi e => ng ((show g1 = i from by simpa [Value.ownBlock] using hi).trans e)); have hb0_ := hb2.set_ 0 (.slice (some ⟨g1, 0, none⟩) (n + 1) cap1); have fc := four_cellsM (xs := xs) (ys := []) (m := n * 4) (a := .int .i64 0) (b := .string ⟨#[]⟩) (c := .int .i64 0) (d := .slice none 0 0) (by rw [List.append_nil]; exact ho0) HFl.out; have y0 := fc.1; have y1 := fc.2.1; have y2 := fc.2.2.1; have y3 := fc.2.2.2.1; have u0 := ho0.frozenAt (n * 4); have u1 := ho0.frozenAt (n * 4 + 1); have u2 := ho0.frozenAt (n * 4 + 2); have u3 := ho0.frozenAt (n * 4 + 3); go_simp)
              refine hK.out _ _ (fun he => Bool.noConfusion (show false = true from he)) (fun hE => ?_)
              clear hK K hE
              try simp only [Act.put, List.setIfInBounds_toArray, List.set_cons_zero, List.set_cons_succ]
              refine wpAnyT_done (by kernel_rfl) ?_ _
              refine NoPanic.normal ?_
              have hs0 : Keeps (· = p) w2 (w2.setCell ⟨p, 0, none⟩ (.slice (some ⟨g1, 0, none⟩) (n + 1) cap1)) := (Keeps.refl (· = p) _).setCell (p := ⟨p, 0, none⟩) (fun _ => rfl) _
              have ho0 := own_keeps hown1 hs0 (fun i hi e => ng ((show g1 = i from by simpa [Value.ownBlock] using hi).trans e))
              have hb0_ := hb2.set_ 0 (.slice (some ⟨g1, 0, none⟩) (n + 1) cap1)
              have hs1 : Keeps (· = g1) (w2.setCell ⟨p, 0, none⟩ (.slice (some ⟨g1, 0, none⟩) (n + 1) cap1)) (((((w2.setCell ⟨p, 0, none⟩ (.slice (some ⟨g1, 0, none⟩) (n + 1) cap1)).setCell ⟨g1, n * 4, none⟩ (.int .i64 0)).setCell ⟨g1, n * 4 + 1, none⟩ (.string ⟨#[]⟩)).setCell ⟨g1, n * 4 + 2, none⟩ (.int .i64 (n : Int))).setCell ⟨g1, n * 4 + 3, none⟩ (.slice none 0 0)) := ((((Keeps.refl (· = g1) (w2.setCell ⟨p, 0, none⟩ (.slice (some ⟨g1, 0, none⟩) (n + 1) cap1))).setCell (p := ⟨g1, n * 4, none⟩) (fun _ => rfl) _).setCell (p := ⟨g1, n * 4 + 1, none⟩) (fun _ => rfl) _).setCell (p := ⟨g1, n * 4 + 2, none⟩) (fun _ => rfl) _).setCell (p := ⟨g1, n * 4 + 3, none⟩) (fun _ => rfl) _
              have ho1 := own_four (xs := xs) (ys := []) (m := n * 4) (u0 := .int .i64 0) (u1 := .string ⟨#[]⟩) (u2 := .int .i64 (n : Int)) (u3 := .slice none 0 0) (by rw [List.append_nil]; exact ho0) HFl.out
              have hb1_ := hb0_.keeps hs1 (fun e => ng e.symm)
              have hof : World.ownsRow (((((w2.setCell ⟨p, 0, none⟩ (.slice (some ⟨g1, 0, none⟩) (n + 1) cap1)).setCell ⟨g1, n * 4, none⟩ (.int .i64 0)).setCell ⟨g1, n * 4 + 1, none⟩ (.string ⟨#[]⟩)).setCell ⟨g1, n * 4 + 2, none⟩ (.int .i64 (n : Int))).setCell ⟨g1, n * 4 + 3, none⟩ (.slice none 0 0)) 0 24 4 (.slice (some ⟨g1, 0, none⟩) (n + 1) cap1) (n + 1) (xs ++ [.int .i64 0, .string ⟨#[]⟩, .int .i64 (n : Int), .slice none 0 0]) := by first | exact ho1 | (have h := ho1; rw [List.append_nil] at h; exact h)
              have HTo := Lib.hid (HPut.out _ g1 cap1 (((hk1.mono (Y := fun i => (Value.slice (some ⟨g, 0, none⟩) n cap).ownBlock = some i ∨ i = p ∨ i = g1) (fun _ _ h => .inl h)).trans hs0 (fun i _ h => .inr (.inl h))).trans hs1 (fun i _ h => .inr (.inr h))) hb1_ hof hat1')
              clear hown1 hk1 hkp1 hat1 hb2 ng hof hat1' hs0 ho0 hb0_ hs1 ho1 hb1_
              go_wp2_with fail
              go_meet
              exact ⟨_, _, HTo.out⟩
            exact AllT.nil
          exact AllT.nil
        exact AllT.nil
      exact AllT.nil
    refine AllT.cons (o := { dst := some 14, op := Op.buildSlice 25 1 #[(0, Operand.const (Value.agg #[Value.int IntKind.i64 0, Value.string { data := #[] }, Value.int IntKind.i64 0, Value.slice none 0 0]))], type := 25, pos := "unify.go:127", after := #[], guard := none }) rfl (fun K hK => ?_) ?_
    · go_simp
      refine hK.out _ _ (fun _ => ?_) (fun hE => ?_)
      · first | exact hQ.out _ hk1 | exact hQ.out _ (Keeps.mono (show Keeps (fun _ => False) W0 _ from (by repeat (first | (with_reducible exact Keeps.refl _ _) | (with_reducible assumption) | (with_reducible refine Keeps.drew ?_) | (with_reducible refine Keeps.drewN ?_ _) | (with_reducible refine Keeps.alloc ?_ _) | (with_reducible refine Keeps.trans ?_ (by assumption) (fun _ _ h => h))))) (fun _ _ h => h.elim))
      have hS := hE (by kernel_rfl)
      clear hK K hE
      try simp only [Act.put, List.setIfInBounds_toArray, List.set_cons_zero, List.set_cons_succ]
      refine wpAnyT_ready (rs := [9]) (by kernel_rfl) rfl ?_
      refine AllT.cons (o := { dst := some 12, op := Op.call { callee := Callee.value (Operand.func 23), args := #[Operand.tmp 11], argTypes := #[3] }, type := 24, pos := "unify.go:127", after := #[⟨8, .data⟩], guard := none }) rfl (fun K hK => ?_) ?_
      · (go_simp; go_at_call 23; refine (HVar.out _).mono ?_; rintro e wv ⟨rfl, hkv⟩; go_wp2_with fail)
        refine hK.out _ _ (fun _ => ?_) (fun hE => ?_)
        · first | exact hQ.out _ hk1 | exact hQ.out _ (Keeps.mono (show Keeps (fun _ => False) W0 _ from (by repeat (first | (with_reducible exact Keeps.refl _ _) | (with_reducible assumption) | (with_reducible refine Keeps.drew ?_) | (with_reducible refine Keeps.drewN ?_ _) | (with_reducible refine Keeps.alloc ?_ _) | (with_reducible refine Keeps.trans ?_ (by assumption) (fun _ _ h => h))))) (fun _ _ h => h.elim))
        have hS := hE (by kernel_rfl)
        clear hK K hE
        try simp only [Act.put, List.setIfInBounds_toArray, List.set_cons_zero, List.set_cons_succ]
        refine wpAnyT_ready (rs := [12]) (by kernel_rfl) rfl ?_
        refine AllT.cons (o := { dst := some 15, op := Op.call { callee := Callee.builtin Builtin.append, args := #[Operand.tmp 6, Operand.tmp 14], argTypes := #[25, 25] }, type := 25, pos := "unify.go:127", after := #[⟨3, .data⟩, ⟨11, .data⟩, ⟨9, .chain⟩, ⟨0, .phase⟩, ⟨1, .phase⟩, ⟨2, .phase⟩, ⟨3, .phase⟩, ⟨4, .phase⟩, ⟨5, .phase⟩, ⟨6, .phase⟩, ⟨7, .phase⟩, ⟨8, .phase⟩, ⟨9, .phase⟩, ⟨10, .phase⟩, ⟨11, .phase⟩], guard := none }) rfl (fun K hK => ?_) ?_
        · (refine step_append_kept_m (W0 := W0) rfl (.tmp 6) (.tmp 14) 25 rfl 0 24 i0 _ 4 56 Tryd.underlying25 hi0 hz0 hz1 hz2 rfl (by decide) (Value.slice (some ⟨g, 0, none⟩) n cap) n xs rfl HOwn.out (by repeat (first | (with_reducible exact Keeps.refl _ _) | (with_reducible assumption) | (with_reducible refine Keeps.drew ?_) | (with_reducible refine Keeps.drewN ?_ _) | (with_reducible refine Keeps.alloc ?_ _) | (with_reducible refine Keeps.trans ?_ (by assumption) (fun _ _ h => h)))) _ 1 _ #[.int .i64 0, .string ⟨#[]⟩, .int .i64 0, .slice none 0 0] rfl (by decide) rfl (by first | exact heap_new_at (by simp) | exact heap_new_at rfl | exact Keeps.heap hkv (by first | exact heap_new_at rfl | exact heap_new_at (by simp)) (fun h => h)) (by simp [Value.oneCell']) HMq.out HBq.out (Nat.zero_le _) ?_; intro g1 cap1 w2 hown1 hk1 hkp1 hat1; have hb2 := HBo.out _ hk1; have hat1' : (Value.slice (some ⟨g, 0, none⟩) n cap).ownBlock = some g1 ∨ W0.heap.size ≤ g1 := hat1.imp id (fun h => Nat.le_trans (Keeps.size (show Keeps (fun _ => False) W0 _ from (by repeat (first | (with_reducible exact Keeps.refl _ _) | (with_reducible assumption) | (with_reducible refine Keeps.drew ?_) | (with_reducible refine Keeps.drewN ?_ _) | (with_reducible refine Keeps.alloc ?_ _) | (with_reducible refine Keeps.trans ?_ (by assumption) (fun _ _ h => h)))))) h); have ng := HNg.out g1 hat1')
          refine hK.out _ _ (fun _ => ?_) (fun hE => ?_)
          · first | exact hQ.out _ hk1 | exact hQ.out _ (Keeps.mono (show Keeps (fun _ => False) W0 _ from (by repeat (first | (with_reducible exact Keeps.refl _ _) | (with_reducible assumption) | (with_reducible refine Keeps.drew ?_) | (with_reducible refine Keeps.drewN ?_ _) | (with_reducible refine Keeps.alloc ?_ _) | (with_reducible refine Keeps.trans ?_ (by assumption) (fun _ _ h => h))))) (fun _ _ h => h.elim))
          have hS := hE (by kernel_rfl)
          clear hK K hE
          try simp only [Act.put, List.setIfInBounds_toArray, List.set_cons_zero, List.set_cons_succ]
          refine wpAnyT_pure (i := 13) (oi := { dst := some 16, op := Op.indexAddr 25 (Operand.tmp 15) (Operand.tmp 13), type := 0, pos := "unify.go:127", after := #[⟨12, .data⟩, ⟨10, .data⟩, ⟨0, .phase⟩, ⟨1, .phase⟩, ⟨2, .phase⟩, ⟨3, .phase⟩, ⟨4, .phase⟩, ⟨5, .phase⟩, ⟨6, .phase⟩, ⟨7, .phase⟩, ⟨8, .phase⟩, ⟨9, .phase⟩, ⟨10, .phase⟩, ⟨11, .phase⟩, ⟨12, .phase⟩, ⟨17, .gcOnly .appendInPlace⟩], guard := none }) (v := ?v1_13_14) rfl (by kernel_rfl) (fun _ _ _ h => h) (Or.inl ⟨by rfl, ?y1_13_14⟩) (fun _ => hS) ?_
          case y1_13_14 => (intro w hSw; go_simp; try with_reducible rfl)
          try simp only [Act.put, List.setIfInBounds_toArray, List.set_cons_zero, List.set_cons_succ]
          refine wpAnyT_pure (i := 15) (oi := { dst := some 17, op := Op.nilCheck (Operand.tmp 3), type := 0, pos := "unify.go:127", after := #[⟨0, .data⟩, ⟨0, .phase⟩, ⟨1, .phase⟩, ⟨2, .phase⟩, ⟨3, .phase⟩, ⟨4, .phase⟩, ⟨5, .phase⟩, ⟨6, .phase⟩, ⟨7, .phase⟩, ⟨8, .phase⟩, ⟨9, .phase⟩, ⟨10, .phase⟩, ⟨11, .phase⟩, ⟨12, .phase⟩, ⟨13, .textOnly .appendInPlace⟩, ⟨14, .textOnly .appendInPlace⟩], guard := none }) (v := ?v1_15_15) rfl (by kernel_rfl) (fun _ _ _ h => h) (Or.inl ⟨by rfl, ?y1_15_15⟩) (fun _ => hS) ?_
          case y1_15_15 => (intro w hSw; go_simp; try with_reducible rfl)
          try simp only [Act.put, List.setIfInBounds_toArray, List.set_cons_zero, List.set_cons_succ]
          refine wpAnyT_pure (i := 16) (oi := { dst := some 18, op := Op.fieldAddr 56 (Operand.tmp 17) 0, type := 0, pos := "unify.go:127", after := #[⟨15, .data⟩, ⟨0, .phase⟩, ⟨1, .phase⟩, ⟨2, .phase⟩, ⟨3, .phase⟩, ⟨4, .phase⟩, ⟨5, .phase⟩, ⟨6, .phase⟩, ⟨7, .phase⟩, ⟨8, .phase⟩, ⟨9, .phase⟩, ⟨10, .phase⟩, ⟨11, .phase⟩, ⟨12, .phase⟩, ⟨13, .textOnly .appendInPlace⟩, ⟨14, .textOnly .appendInPlace⟩], guard := none }) (v := ?v1_16_16) rfl (by kernel_rfl) (fun _ _ _ h => h) (Or.inl ⟨by rfl, ?y1_16_16⟩) (fun _ => hS) ?_
          case y1_16_16 => (intro w hSw; go_simp; try with_reducible rfl)
          try simp only [Act.put, List.setIfInBounds_toArray, List.set_cons_zero, List.set_cons_succ]
          refine wpAnyT_ready (rs := [14, 17]) (by kernel_rfl) rfl ?_
          refine AllT.cons (o := { dst := none, op := Op.store 24 (Operand.tmp 16) (Operand.tmp 12), type := 0, pos := "unify.go:127", after := #[⟨13, .data⟩, ⟨9, .data⟩, ⟨12, .chain⟩, ⟨0, .phase⟩, ⟨1, .phase⟩, ⟨2, .phase⟩, ⟨3, .phase⟩, ⟨4, .phase⟩, ⟨5, .phase⟩, ⟨6, .phase⟩, ⟨7, .phase⟩, ⟨8, .phase⟩, ⟨9, .phase⟩, ⟨10, .phase⟩, ⟨11, .phase⟩, ⟨12, .phase⟩, ⟨17, .gcOnly .appendInPlace⟩], guard := none }) rfl (fun K hK => ?_) ?_
          · (have fc := four_cellsM (xs := xs) (ys := []) (m := n * 4) (a := .int .i64 0) (b := .string ⟨#[]⟩) (c := .int .i64 0) (d := .slice none 0 0) (by rw [List.append_nil]; exact hown1) HFl.out; have y0 := fc.1; have y1 := fc.2.1; have y2 := fc.2.2.1; have y3 := fc.2.2.2.1; have u0 := hown1.frozenAt (n * 4); have u1 := hown1.frozenAt (n * 4 + 1); have u2 := hown1.frozenAt (n * 4 + 2); have u3 := hown1.frozenAt (n * 4 + 3); go_simp)
            refine hK.out _ _ (fun he => Bool.noConfusion (show false = true from he)) (fun hE => ?_)
            clear hK K hE
            try simp only [Act.put, List.setIfInBounds_toArray, List.set_cons_zero, List.set_cons_succ]
            refine wpAnyT_ready (rs := [17]) (by kernel_rfl) rfl ?_
            refine AllT.cons (o := { dst := none, op := Op.store 25 (Operand.tmp 18) (Operand.tmp 15), type := 0, pos := "unify.go:127", after := #[⟨16, .data⟩, ⟨12, .data⟩, ⟨12, .chain⟩, ⟨14, .textOnly .appendInPlace⟩, ⟨0, .phase⟩, ⟨1, .phase⟩, ⟨2, .phase⟩, ⟨3, .phase⟩, ⟨4, .phase⟩, ⟨5, .phase⟩, ⟨6, .phase⟩, ⟨7, .phase⟩, ⟨8, .phase⟩, ⟨9, .phase⟩, ⟨10, .phase⟩, ⟨11, .phase⟩, ⟨12, .phase⟩, ⟨13, .textOnly .appendInPlace⟩, ⟨14, .textOnly .appendInPlace⟩], guard := none }) rfl (fun K hK => ?_) ?_
            · (have hs0 : Keeps (· = g1) w2 ((((w2.setCell ⟨g1, n * 4, none⟩ (.int .i64 0)).setCell ⟨g1, n * 4 + 1, none⟩ (.string ⟨#[]⟩)).setCell ⟨g1, n * 4 + 2, none⟩ (.int .i64 (n : Int))).setCell ⟨g1, n * 4 + 3, none⟩ (.slice none 0 0)) := ((((Keeps.refl (· = g1) w2).setCell (p := ⟨g1, n * 4, none⟩) (fun _ => rfl) _).setCell (p := ⟨g1, n * 4 + 1, none⟩) (fun _ => rfl) _).setCell (p := ⟨g1, n * 4 + 2, none⟩) (fun _ => rfl) _).setCell (p := ⟨g1, n * 4 + 3, none⟩) (fun _ => rfl) _; have ho0 := own_four (xs := xs) (ys := []) (m := n * 4) (u0 := .int .i64 0) (u1 := .string ⟨#[]⟩) (u2 := .int .i64 (n : Int)) (u3 := .slice none 0 0) (by rw [List.append_nil]; exact hown1) HFl.out; have hb0_ := hb2.keeps hs0 (fun e => ng e.symm); have z0 := hb0_.cell (i := 0) rfl; have z1 := hb0_.free 0; go_simp)
              refine hK.out _ _ (fun he => Bool.noConfusion (show false = true from he)) (fun hE => ?_)
              clear hK K hE
              try simp only [Act.put, List.setIfInBounds_toArray, List.set_cons_zero, List.set_cons_succ]
              refine wpAnyT_done (by kernel_rfl) ?_ _
              refine NoPanic.normal ?_
              have hs0 : Keeps (· = g1) w2 ((((w2.setCell ⟨g1, n * 4, none⟩ (.int .i64 0)).setCell ⟨g1, n * 4 + 1, none⟩ (.string ⟨#[]⟩)).setCell ⟨g1, n * 4 + 2, none⟩ (.int .i64 (n : Int))).setCell ⟨g1, n * 4 + 3, none⟩ (.slice none 0 0)) := ((((Keeps.refl (· = g1) w2).setCell (p := ⟨g1, n * 4, none⟩) (fun _ => rfl) _).setCell (p := ⟨g1, n * 4 + 1, none⟩) (fun _ => rfl) _).setCell (p := ⟨g1, n * 4 + 2, none⟩) (fun _ => rfl) _).setCell (p := ⟨g1, n * 4 + 3, none⟩) (fun _ => rfl) _
              have ho0 := own_four (xs := xs) (ys := []) (m := n * 4) (u0 := .int .i64 0) (u1 := .string ⟨#[]⟩) (u2 := .int .i64 (n : Int)) (u3 := .slice none 0 0) (by rw [List.append_nil]; exact hown1) HFl.out
              have hb0_ := hb2.keeps hs0 (fun e => ng e.symm)
              have hs1 : Keeps (· = p) ((((w2.setCell ⟨g1, n * 4, none⟩ (.int .i64 0)).setCell ⟨g1, n * 4 + 1, none⟩ (.string ⟨#[]⟩)).setCell ⟨g1, n * 4 + 2, none⟩ (.int .i64 (n : Int))).setCell ⟨g1, n * 4 + 3, none⟩ (.slice none 0 0)) (((((w2.setCell ⟨g1, n * 4, none⟩ (.int .i64 0)).setCell ⟨g1, n * 4 + 1, none⟩ (.string ⟨#[]⟩)).setCell ⟨g1, n * 4 + 2, none⟩ (.int .i64 (n : Int))).setCell ⟨g1, n * 4 + 3, none⟩ (.slice none 0 0)).setCell ⟨p, 0, none⟩ (.slice (some ⟨g1, 0, none⟩) (n + 1) cap1)) := (Keeps.refl (· = p) _).setCell (p := ⟨p, 0, none⟩) (fun _ => rfl) _
              have ho1 := own_keeps ho0 hs1 (fun i hi e => ng ((show g1 = i from by simpa [Value.ownBlock] using hi).trans e))
              have hb1_ := hb0_.set_ 0 (.slice (some ⟨g1, 0, none⟩) (n + 1) cap1)
              have hof : World.ownsRow (((((w2.setCell ⟨g1, n * 4, none⟩ (.int .i64 0)).setCell ⟨g1, n * 4 + 1, none⟩ (.string ⟨#[]⟩)).setCell ⟨g1, n * 4 + 2, none⟩ (.int .i64 (n : Int))).setCell ⟨g1, n * 4 + 3, none⟩ (.slice none 0 0)).setCell ⟨p, 0, none⟩ (.slice (some ⟨g1, 0, none⟩) (n + 1) cap1)) 0 24 4 (.slice (some ⟨g1, 0, none⟩) (n + 1) cap1) (n + 1) (xs ++ [.int .i64 0, .string ⟨#[]⟩, .int .i64 (n : Int), .slice none 0 0]) := by first | exact ho1 | (have h := ho1; rw [List.append_nil] at h; exact h)
              have HTo := Lib.hid (HPut.out _ g1 cap1 (((hk1.mono (Y := fun i => (Value.slice (some ⟨g, 0, none⟩) n cap).ownBlock = some i ∨ i = p ∨ i = g1) (fun _ _ h => .inl h)).trans hs0 (fun i _ h => .inr (.inr h))).trans hs1 (fun i _ h => .inr (.inl h))) hb1_ hof hat1')
              clear hown1 hk1 hkp1 hat1 hb2 ng hof hat1' hs0 ho0 hb0_ hs1 ho1 hb1_
              go_wp2_with fail
              go_meet
              exact ⟨_, _, HTo.out⟩
            exact AllT.nil
          refine AllT.cons (o := { dst := none, op := Op.store 25 (Operand.tmp 18) (Operand.tmp 15), type := 0, pos := "unify.go:127", after := #[⟨16, .data⟩, ⟨12, .data⟩, ⟨12, .chain⟩, ⟨14, .textOnly .appendInPlace⟩, ⟨0, .phase⟩, ⟨1, .phase⟩, ⟨2, .phase⟩, ⟨3, .phase⟩, ⟨4, .phase⟩, ⟨5, .phase⟩, ⟨6, .phase⟩, ⟨7, .phase⟩, ⟨8, .phase⟩, ⟨9, .phase⟩, ⟨10, .phase⟩, ⟨11, .phase⟩, ⟨12, .phase⟩, ⟨13, .textOnly .appendInPlace⟩, ⟨14, .textOnly .appendInPlace⟩], guard := none }) rfl (fun K hK => ?_) ?_
          · (have z0 := hb2.cell (i := 0) rfl; have z1 := hb2.free 0; go_simp)
            refine hK.out _ _ (fun he => Bool.noConfusion (show false = true from he)) (fun hE => ?_)
            clear hK K hE
            try simp only [Act.put, List.setIfInBounds_toArray, List.set_cons_zero, List.set_cons_succ]
            refine wpAnyT_ready (rs := [14]) (by kernel_rfl) rfl ?_
            refine AllT.cons (o := { dst := none, op := Op.store 24 (Operand.tmp 16) (Operand.tmp 12), type := 0, pos := "unify.go:127", after := #[⟨13, .data⟩, ⟨9, .data⟩, ⟨12, .chain⟩, ⟨0, .phase⟩, ⟨1, .phase⟩, ⟨2, .phase⟩, ⟨3, .phase⟩, ⟨4, .phase⟩, ⟨5, .phase⟩, ⟨6, .phase⟩, ⟨7, .phase⟩, ⟨8, .phase⟩, ⟨9, .phase⟩, ⟨10, .phase⟩, ⟨11, .phase⟩, ⟨12, .phase⟩, ⟨17, .gcOnly .appendInPlace⟩], guard := none }) rfl (fun K hK => ?_) ?_
            · (have hs0 : Keeps (· = p) w2 (w2.setCell ⟨p, 0, none⟩ (.slice (some ⟨g1, 0, none⟩) (n + 1) cap1)) := (Keeps.refl (· = p) _).setCell (p := ⟨p, 0, none⟩) (fun _ => rfl) _; have ho0 := own_keeps hown1 hs0 (fun i hi e => ng ((show g1 = i from by simpa [Value.ownBlock] using hi).trans e)); have hb0_ := hb2.set_ 0 (.slice (some ⟨g1, 0, none⟩) (n + 1) cap1); have fc := four_cellsM (xs := xs) (ys := []) (m := n * 4) (a := .int .i64 0) (b := .string ⟨#[]⟩) (c := .int .i64 0) (d := .slice none 0 0) (by rw [List.append_nil]; exact ho0) HFl.out; have y0 := fc.1; have y1 := fc.2.1; have y2 := fc.2.2.1; have y3 := fc.2.2.2.1; have u0 := ho0.frozenAt (n * 4); have u1 := ho0.frozenAt (n * 4 + 1); have u2 := ho0.frozenAt (n * 4 + 2); have u3 := ho0.frozenAt (n * 4 + 3); go_simp)
              refine hK.out _ _ (fun he => Bool.noConfusion (show false = true from he)) (fun hE => ?_)
              clear hK K hE
              try simp only [Act.put, List.setIfInBounds_toArray, List.set_cons_zero, List.set_cons_succ]
              refine wpAnyT_done (by kernel_rfl) ?_ _
              refine NoPanic.normal ?_
              have hs0 : Keeps (· = p) w2 (w2.setCell ⟨p, 0, none⟩ (.slice (some ⟨g1, 0, none⟩) (n + 1) cap1)) := (Keeps.refl (· = p) _).setCell (p := ⟨p, 0, none⟩) (fun _ => rfl) _
              have ho0 := own_keeps hown1 hs0 (fun i hi e => ng ((show g1 = i from by simpa [Value.ownBlock] using hi).trans e))
              have hb0_ := hb2.set_ 0 (.slice (some ⟨g1, 0, none⟩) (n + 1) cap1)
              have hs1 : Keeps (· = g1) (w2.setCell ⟨p, 0, none⟩ (.slice (some ⟨g1, 0, none⟩) (n + 1) cap1)) (((((w2.setCell ⟨p, 0, none⟩ (.slice (some ⟨g1, 0, none⟩) (n + 1) cap1)).setCell ⟨g1, n * 4, none⟩ (.int .i64 0)).setCell ⟨g1, n * 4 + 1, none⟩ (.string ⟨#[]⟩)).setCell ⟨g1, n * 4 + 2, none⟩ (.int .i64 (n : Int))).setCell ⟨g1, n * 4 + 3, none⟩ (.slice none 0 0)) := ((((Keeps.refl (· = g1) (w2.setCell ⟨p, 0, none⟩ (.slice (some ⟨g1, 0, none⟩) (n + 1) cap1))).setCell (p := ⟨g1, n * 4, none⟩) (fun _ => rfl) _).setCell (p := ⟨g1, n * 4 + 1, none⟩) (fun _ => rfl) _).setCell (p := ⟨g1, n * 4 + 2, none⟩) (fun _ => rfl) _).setCell (p := ⟨g1, n * 4 + 3, none⟩) (fun _ => rfl) _
              have ho1 := own_four (xs := xs) (ys := []) (m := n * 4) (u0 := .int .i64 0) (u1 := .string ⟨#[]⟩) (u2 := .int .i64 (n : Int)) (u3 := .slice none 0 0) (by rw [List.append_nil]; exact ho0) HFl.out
              have hb1_ := hb0_.keeps hs1 (fun e => ng e.symm)
              have hof : World.ownsRow (((((w2.setCell ⟨p, 0, none⟩ (.slice (some ⟨g1, 0, none⟩) (n + 1) cap1)).setCell ⟨g1, n * 4, none⟩ (.int .i64 0)).setCell ⟨g1, n * 4 + 1, none⟩ (.string ⟨#[]⟩)).setCell ⟨g1, n * 4 + 2, none⟩ (.int .i64 (n : Int))).setCell ⟨g1, n * 4 + 3, none⟩ (.slice none 0 0)) 0 24 4 (.slice (some ⟨g1, 0, none⟩) (n + 1) cap1) (n + 1) (xs ++ [.int .i64 0, .string ⟨#[]⟩, .int .i64 (n : Int), .slice none 0 0]) := by first | exact ho1 | (have h := ho1; rw [List.append_nil] at h; exact h)
              have HTo := Lib.hid (HPut.out _ g1 cap1 (((hk1.mono (Y := fun i => (Value.slice (some ⟨g, 0, none⟩) n cap).ownBlock = some i ∨ i = p ∨ i = g1) (fun _ _ h => .inl h)).trans hs0 (fun i _ h => .inr (.inl h))).trans hs1 (fun i _ h => .inr (.inr h))) hb1_ hof hat1')
              clear hown1 hk1 hkp1 hat1 hb2 ng hof hat1' hs0 ho0 hb0_ hs1 ho1 hb1_
              go_wp2_with fail
              go_meet
              exact ⟨_, _, HTo.out⟩
            exact AllT.nil
          exact AllT.nil
        exact AllT.nil
      exact AllT.nil
    exact AllT.nil
  case rest =>
    obtain ⟨g1, cap1, hTo⟩ := hcut
    obtain ⟨w9, hw9⟩ : ∃ w9, w9 = wc := ⟨_, rfl⟩
    rw [← hw9] at hTo ⊢
    clear hw9
    have HTo := Lib.hid hTo
    clear hTo
    have hB9 := HB0.out.keeps HTo.out.keeps (fun h => by rcases h with h | h; exact hpb h.symm; exact hgb h.symm)
    obtain ⟨x, xv, hx, hT, e0, e1, e2, e3⟩ := HTo.out.uni.cells (v := n) (by rw [List.length_append, HN0.out]; simp)
    have hx2 : x = varT (n : Int) := by rw [hx]; simp [HN0.out]
    subst hx2
    obtain ⟨A9, c9, rfl, _, _, _⟩ := hT.form
    have p9 := HTo.out.uni.blk.cell (i := 0) rfl
    have hl9 := hB9.lt
    have hbg1 : b0 ≠ g1 := fun e => by
      rcases HTo.out.at_ with h | h
      · exact hgb (h.symm.trans e.symm)
      · have := HB0.out.lt; omega
    have HT9 := Lib.hid hT
    have HB9 := Lib.hid hB9
    have hQ9 : Hid (∀ X, Keeps (fun i => i = b0) w9 X → (X.cell? ⟨p, 0, none⟩ = some (.slice (some ⟨g1, 0, none⟩) (n + 1) cap1) ∧ X.cell? ⟨g1, n * 4, none⟩ = some (.int .i64 0) ∧ X.cell? ⟨g1, n * 4 + 1, none⟩ = some (.string ⟨#[]⟩) ∧ X.cell? ⟨g1, n * 4 + 2, none⟩ = some (.int .i64 (n : Int)) ∧ X.cell? ⟨g1, n * 4 + 3, none⟩ = some (.slice A9 (varT (n : Int)).args.length c9))) := fun X hk => ⟨hk.cell p9 hpb, hk.cell e0 (fun e => hbg1 e.symm), hk.cell e1 (fun e => hbg1 e.symm), hk.cell e2 (fun e => hbg1 e.symm), hk.cell e3 (fun e => hbg1 e.symm)⟩
    clear hB9 hx hT e0 e1 e2 e3 p9
    go_wp2_with fail
    refine wp_region_noPanic ?_
    refine wp_region_till [12] (fun X => X.cell? ⟨p, 0, none⟩ = some (.slice (some ⟨g1, 0, none⟩) (n + 1) cap1) ∧ X.cell? ⟨g1, n * 4, none⟩ = some (.int .i64 0) ∧ X.cell? ⟨g1, n * 4 + 1, none⟩ = some (.string ⟨#[]⟩) ∧ X.cell? ⟨g1, n * 4 + 2, none⟩ = some (.int .i64 (n : Int)) ∧ X.cell? ⟨g1, n * 4 + 3, none⟩ = some (.slice A9 (varT (n : Int)).args.length c9)) (by kernel_rfl) ?_ (fun hE => ?_)
    · first | exact hQ9.out _ (Keeps.refl _ _) | exact hQ9.out _ (Keeps.refl _ _).drew
    have hS := hE (by kernel_rfl)
    refine wpAnyT_pure (i := 0) (oi := { dst := some 19, op := Op.move (Operand.tmp 0), type := 53, pos := "unify.go:128", after := #[], guard := none }) (v := ?v2_0_1) rfl (by kernel_rfl) (fun _ _ _ h => h) (Or.inl ⟨by rfl, ?y2_0_1⟩) (fun _ => hS) ?_
    case y2_0_1 => (intro w hSw; go_simp; try with_reducible rfl)
    try simp only [Act.put, List.setIfInBounds_toArray, List.set_cons_zero, List.set_cons_succ]
    refine wpAnyT_pure (i := 1) (oi := { dst := some 20, op := Op.nilCheck (Operand.tmp 19), type := 0, pos := "unify.go:128", after := #[⟨0, .data⟩], guard := none }) (v := ?v2_1_2) rfl (by kernel_rfl) (fun _ _ _ h => h) (Or.inl ⟨by rfl, ?y2_1_2⟩) (fun _ => hS) ?_
    case y2_1_2 => (intro w hSw; go_simp; try with_reducible rfl)
    try simp only [Act.put, List.setIfInBounds_toArray, List.set_cons_zero, List.set_cons_succ]
    refine wpAnyT_pure (i := 2) (oi := { dst := some 21, op := Op.fieldAddr 56 (Operand.tmp 20) 0, type := 0, pos := "unify.go:128", after := #[⟨1, .data⟩], guard := none }) (v := ?v2_2_3) rfl (by kernel_rfl) (fun _ _ _ h => h) (Or.inl ⟨by rfl, ?y2_2_3⟩) (fun _ => hS) ?_
    case y2_2_3 => (intro w hSw; go_simp; try with_reducible rfl)
    try simp only [Act.put, List.setIfInBounds_toArray, List.set_cons_zero, List.set_cons_succ]
    refine wpAnyT_take (i := 3) (oi := { dst := some 22, op := Op.load 25 (Operand.tmp 21), type := 25, pos := "unify.go:128", after := #[⟨2, .data⟩], guard := none }) (v := ?v2_3_4) rfl (by kernel_rfl) (fun _ _ _ h => h) (Or.inl ⟨by rfl, ?y2_3_4⟩) hS ?_
    case y2_3_4 => (intro w hSw; (try dsimp only at hSw); go_simp; try with_reducible rfl)
    try simp only [Act.put, List.setIfInBounds_toArray, List.set_cons_zero, List.set_cons_succ]
    refine wpAnyT_pure (i := 4) (oi := { dst := some 23, op := Op.move (Operand.tmp 0), type := 53, pos := "unify.go:128", after := #[], guard := none }) (v := ?v2_4_5) rfl (by kernel_rfl) (fun _ _ _ h => h) (Or.inl ⟨by rfl, ?y2_4_5⟩) (fun _ => hS) ?_
    case y2_4_5 => (intro w hSw; go_simp; try with_reducible rfl)
    try simp only [Act.put, List.setIfInBounds_toArray, List.set_cons_zero, List.set_cons_succ]
    refine wpAnyT_pure (i := 5) (oi := { dst := some 24, op := Op.nilCheck (Operand.tmp 23), type := 0, pos := "unify.go:128", after := #[⟨4, .data⟩], guard := none }) (v := ?v2_5_6) rfl (by kernel_rfl) (fun _ _ _ h => h) (Or.inl ⟨by rfl, ?y2_5_6⟩) (fun _ => hS) ?_
    case y2_5_6 => (intro w hSw; go_simp; try with_reducible rfl)
    try simp only [Act.put, List.setIfInBounds_toArray, List.set_cons_zero, List.set_cons_succ]
    refine wpAnyT_pure (i := 6) (oi := { dst := some 25, op := Op.fieldAddr 56 (Operand.tmp 24) 0, type := 0, pos := "unify.go:128", after := #[⟨5, .data⟩], guard := none }) (v := ?v2_6_7) rfl (by kernel_rfl) (fun _ _ _ h => h) (Or.inl ⟨by rfl, ?y2_6_7⟩) (fun _ => hS) ?_
    case y2_6_7 => (intro w hSw; go_simp; try with_reducible rfl)
    try simp only [Act.put, List.setIfInBounds_toArray, List.set_cons_zero, List.set_cons_succ]
    refine wpAnyT_take (i := 7) (oi := { dst := some 26, op := Op.load 25 (Operand.tmp 25), type := 25, pos := "unify.go:128", after := #[⟨6, .data⟩], guard := none }) (v := ?v2_7_8) rfl (by kernel_rfl) (fun _ _ _ h => h) (Or.inl ⟨by rfl, ?y2_7_8⟩) hS ?_
    case y2_7_8 => (intro w hSw; (try dsimp only at hSw); go_simp; try with_reducible rfl)
    try simp only [Act.put, List.setIfInBounds_toArray, List.set_cons_zero, List.set_cons_succ]
    refine wpAnyT_pure (i := 8) (oi := { dst := some 27, op := Op.call { callee := Callee.builtin Builtin.len, args := #[Operand.tmp 26], argTypes := #[25] }, type := 3, pos := "unify.go:128", after := #[⟨7, .data⟩], guard := none }) (v := ?v2_8_9) rfl (by kernel_rfl) (fun _ _ _ h => h) (Or.inl ⟨by rfl, ?y2_8_9⟩) (fun _ => hS) ?_
    case y2_8_9 => (intro w hSw; go_simp; try with_reducible rfl)
    try simp only [Act.put, List.setIfInBounds_toArray, List.set_cons_zero, List.set_cons_succ]
    refine wpAnyT_pure (i := 9) (oi := { dst := some 28, op := Op.binOp BinOp.sub 3 (Operand.tmp 27) (Operand.const (Value.int IntKind.i64 1)) 3, type := 3, pos := "unify.go:128", after := #[⟨8, .data⟩], guard := none }) (v := ?v2_9_10) rfl (by kernel_rfl) (fun _ _ _ h => h) (Or.inl ⟨by rfl, ?y2_9_10⟩) (fun _ => hS) ?_
    case y2_9_10 => (intro w hSw; go_simp; try with_reducible rfl)
    try simp only [Act.put, List.setIfInBounds_toArray, List.set_cons_zero, List.set_cons_succ]
    refine wpAnyT_pure (i := 10) (oi := { dst := some 29, op := Op.indexAddr 25 (Operand.tmp 22) (Operand.tmp 28), type := 0, pos := "unify.go:128", after := #[⟨3, .data⟩, ⟨9, .data⟩], guard := none }) (v := ?v2_10_11) rfl (by kernel_rfl) (fun _ _ _ h => h) (Or.inl ⟨by rfl, ?y2_10_11⟩) (fun _ => hS) ?_
    case y2_10_11 => (intro w hSw; go_simp; try with_reducible rfl)
    try simp only [Act.put, List.setIfInBounds_toArray, List.set_cons_zero, List.set_cons_succ]
    refine wpAnyT_take (i := 11) (oi := { dst := some 30, op := Op.load 24 (Operand.tmp 29), type := 24, pos := "unify.go:128", after := #[⟨10, .data⟩], guard := none }) (v := ?v2_11_12) rfl (by kernel_rfl) (fun _ _ _ h => h) (Or.inl ⟨by rfl, ?y2_11_12⟩) hS ?_
    case y2_11_12 => (intro w hSw; (try dsimp only at hSw); go_simp; try with_reducible rfl)
    try simp only [Act.put, List.setIfInBounds_toArray, List.set_cons_zero, List.set_cons_succ]
    refine wpAnyT_ready (rs := [12]) (by kernel_rfl) rfl ?_
    refine AllT.cons (o := { dst := none, op := Op.store 24 (Operand.tmp 2) (Operand.tmp 30), type := 0, pos := "unify.go:128", after := #[⟨11, .data⟩, ⟨0, .phase⟩, ⟨1, .phase⟩, ⟨2, .phase⟩, ⟨3, .phase⟩, ⟨4, .phase⟩, ⟨5, .phase⟩, ⟨6, .phase⟩, ⟨7, .phase⟩, ⟨8, .phase⟩, ⟨9, .phase⟩, ⟨10, .phase⟩, ⟨11, .phase⟩], guard := none }) rfl (fun K hK => ?_) ?_
    · (have q0 := HB9.out.cell (i := 0) rfl; have q1 := HB9.out.cell (i := 1) rfl; have q2 := HB9.out.cell (i := 2) rfl; have q3 := HB9.out.cell (i := 3) rfl; have f0 := HB9.out.free 0; have f1 := HB9.out.free 1; have f2 := HB9.out.free 2; have f3 := HB9.out.free 3; go_simp)
      refine hK.out _ _ (fun he => Bool.noConfusion (show false = true from he)) (fun hE => ?_)
      clear hK K hE
      try simp only [Act.put, List.setIfInBounds_toArray, List.set_cons_zero, List.set_cons_succ]
      refine wpAnyT_done (by kernel_rfl) ?_ _
      refine NoPanic.normal ?_
      go_wp2_with fail
      obtain ⟨hA, hKA⟩ := four HB9.out (.int .i64 0) (.string ⟨#[]⟩) (.int .i64 (n : Int)) (.slice A9 (varT (n : Int)).args.length c9)
      have hall := hKA.drew
      have hb0 := HBn.out
      have hbf : ∀ i, F i → ¬ i = b0 := fun i hi e => by have := (HU.out.im i hi).1; omega
      have hu := HTo.out.uni.keeps hall hpb hbg1.symm hbf
      have hkf : Keeps (fun b => b = p ∨ b = g) W _ := ((HK0.out.mono (Y := fun b => b = p ∨ b = g) (fun _ _ h => h.elim)).trans HTo.out.keeps (fun _ _ h => h)).trans hall (fun i hi h => by omega)
      exact ret_row Tryd.results51 rfl hA.drew Tryd.underlying24 (by kernel_rfl) rfl ⟨_, _, g1, rfl, HT9.out.keeps hall hbf, hu, hkf, HTo.out.at_.imp id (fun h => Nat.le_trans HK0.out.size h), fun _ h => h, fun _ h => .inl h⟩
    exact AllT.nil
end Go.Proofs.YthchnabhbpdfgaaDoor
