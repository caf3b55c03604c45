/- kinds: the solver's slot. -/
import Derived.Test.YtjofndhbpglfgaaDoorKSolv
import Derived.Test.YtjofndhbpglfgaaDoorStepKept
import Derived.Test.YtjofndhbpglfgaaDoorTill
namespace Go.Proofs.YtjofndhbpglfgaaDoor
open Go.RowKit Go.Shelf
section
variable {W W' : World} {B p : Nat} {known : List KindSig} {datas : List DataSig} {first up : List Nat} {kind : List Int} {kv dv fv uv cv : Value}
theorem Sv.pushed (h : Sv W B p known datas first up kind kv dv fv uv cv) (hB : B ≤ W.heap.size) (kd : Int) {w2 w3 : World} {g1 c1 g2 c2 : Nat}
    (o1 : w2.ownsRow B 3 1 (.slice (some ⟨g1, 0, none⟩) (up.length + 1) c1) (up.length + 1) (ints up ++ (#[.int .i64 (up.length : Int)] : Array Value).toList)) (k1 : Keeps (fun k => uv.ownBlock = some k) W w2) (a1 : uv.ownBlock = some g1 ∨ W.heap.size ≤ g1)
    (o2 : w3.ownsRow B 3 1 (.slice (some ⟨g2, 0, none⟩) (kind.length + 1) c2) (kind.length + 1) (kintz kind ++ (#[.int .i64 kd] : Array Value).toList)) (k2 : Keeps (fun k => cv.ownBlock = some k) w2 w3) (a2 : cv.ownBlock = some g2 ∨ w2.heap.size ≤ g2) :
    Sv ((w3.setCell ⟨p, 3, none⟩ (.slice (some ⟨g1, 0, none⟩) (up.length + 1) c1)).setCell ⟨p, 4, none⟩ (.slice (some ⟨g2, 0, none⟩) (kind.length + 1) c2)) B p known datas first (up ++ [up.length]) (kind ++ [kd]) kv dv fv (.slice (some ⟨g1, 0, none⟩) (up.length + 1) c1) (.slice (some ⟨g2, 0, none⟩) (kind.length + 1) c2) ∧
      Below B W ((w3.setCell ⟨p, 3, none⟩ (.slice (some ⟨g1, 0, none⟩) (up.length + 1) c1)).setCell ⟨p, 4, none⟩ (.slice (some ⟨g2, 0, none⟩) (kind.length + 1) c2)) := by
  have hUlt := h.uo.lt
  have hClt := h.co.lt
  have hFlt := h.fo.lt
  have hnU := own_not h.uo h.blk (by decide)
  have hnC := own_not h.co h.blk (by decide)
  have hnF := own_not h.fo h.blk (by decide)
  have hs1 := k1.size
  have hs2 := k2.size
  have b3 := (h.blk.keeps k1 hnU).keeps k2 hnC
  have k3 : Keeps (· = p) w3 ((w3.setCell ⟨p, 3, none⟩ (.slice (some ⟨g1, 0, none⟩) (up.length + 1) c1)).setCell ⟨p, 4, none⟩ (.slice (some ⟨g2, 0, none⟩) (kind.length + 1) c2)) := ((Keeps.refl (· = p) w3).setCell (p := ⟨p, 3, none⟩) (fun _ => rfl) _).setCell (p := ⟨p, 4, none⟩) (fun _ => rfl) _
  have o1' := own_keeps o1 k2 (fun i hi hc => by
    have e : g1 = i := by simpa [Value.ownBlock] using hi
    have := (hClt i hc).2
    rcases a1 with a | a
    · exact h.uc g1 a (by rw [e]; exact hc)
    · omega)
  have o1p := own_not o1' b3 (by decide)
  have o2p := own_not o2 b3 (by decide)
  have hF3 := own_keeps (own_keeps h.fo k1 (fun i hi hc => h.fu i hi hc)) k2 (fun i hi hc => h.fc i hi hc)
  have hlow : ∀ (i : Nat), i < B → ¬ uv.ownBlock = some i ∧ ¬ cv.ownBlock = some i ∧ i ≠ p := fun i hi => ⟨fun e => by have := (hUlt i e).1; omega, fun e => by have := (hClt i e).1; omega, by have := h.low; omega⟩
  have hg1 : g1 < w2.heap.size := (o1.lt g1 rfl).2
  refine ⟨⟨(b3.set_ 3 _).set_ 4 _, own_keeps hF3 k3 (fun i hi e => hnF (by rw [hi, e])), ?_, ?_, ?_, ?_, ?_, ?_, ?_, h.low⟩, ?_⟩
  · have := own_keeps o1' k3 (fun i hi e => o1p (by rw [hi, e]))
    simpa [ints] using this
  · have := own_keeps o2 k3 (fun i hi e => o2p (by rw [hi, e]))
    simpa [kintz] using this
  · intro i hi hc
    have e : g1 = i := by simpa [Value.ownBlock] using hc
    have := (hFlt i hi).2
    rcases a1 with a | a
    · exact h.fu i hi (by rw [← e]; exact a)
    · omega
  · intro i hi hc
    have e : g2 = i := by simpa [Value.ownBlock] using hc
    have := (hFlt i hi).2
    rcases a2 with a | a
    · exact h.fc i hi (by rw [← e]; exact a)
    · omega
  · intro i hi hc
    have e1 : g1 = i := by simpa [Value.ownBlock] using hi
    have e2 : g2 = i := by simpa [Value.ownBlock] using hc
    rcases a2 with a | a
    · rcases a1 with b | b
      · exact h.uc g1 b (by rw [a, e2, e1])
      · have := (hClt g2 a).2; omega
    · omega
  · exact ((h.kn.keeps k1 (fun i hi => (hlow i hi).1)).keeps k2 (fun i hi => (hlow i hi).2.1)).keeps k3 (fun i hi => (hlow i hi).2.2)
  · exact ((h.dt.keeps k1 (fun i hi => (hlow i hi).1)).keeps k2 (fun i hi => (hlow i hi).2.1)).keeps k3 (fun i hi => (hlow i hi).2.2)
  · exact (((k1.below (fun i hi => (hUlt i hi).1) hB).trans (k2.below (fun i hi => (hClt i hi).1) (Nat.le_trans hB hs1)))).trans (k3.below (fun i hi => by have := h.low; omega) (by omega))
set_option maxRecDepth 100000 in
set_option maxHeartbeats 32000000 in
theorem slot_any (hS : Sv W B p known datas first up kind kv dv fv uv cv) (hlu : up.length ≤ 1000000) (hlk : kind.length ≤ 1000000) (hB : B ≤ W.heap.size) (kd : Int) :
    Calls Tryd.prog 42 #[.pointer (some ⟨p, 0, none⟩), .int .i64 kd] W fun e w' => e = .returned (.int .i64 (up.length : Int)) ∧ Below B W w' ∧
      ∃ uv' cv', Sv w' B p known datas first (up ++ [up.length]) (kind ++ [kd]) kv dv fv uv' cv' := by
  obtain ⟨i0, hi0, hz0, hz1, hz2⟩ := info_parts infoIntK
  have c3 := hS.blk.cell (i := 3) rfl
  have c4 := hS.blk.cell (i := 4) rfl
  have f3 := hS.blk.free 3
  have f4 := hS.blk.free 4
  have hpl := hS.blk.lt
  have hnU := own_not hS.uo hS.blk (by decide)
  have hnC := own_not hS.co hS.blk (by decide)
  obtain ⟨U, uc, hu, _⟩ := own_shape hS.uo
  obtain ⟨UX, hUX⟩ : ∃ l, ints up = l := ⟨_, rfl⟩
  obtain ⟨CX, hCX⟩ : ∃ l, kintz kind = l := ⟨_, rfl⟩
  have HU := Lib.hid hS.uo
  have HC := Lib.hid hS.co
  rw [hUX] at HU
  rw [hCX] at HC
  have HUX := Lib.hid hUX
  have HCX := Lib.hid hCX
  have HCU : Hid (∀ i, cv.ownBlock = some i → ¬ uv.ownBlock = some i) := fun i h h' => hS.uc i h' h
  have HMu := Lib.hid (show up.length + 1 ≤ maxLen by unfold maxLen; omega)
  have HMc := Lib.hid (show kind.length + 1 ≤ maxLen by unfold maxLen; omega)
  have HBu := Lib.hid (show (up.length + 1) * 8 ≤ 140737488355328 by omega)
  have HBc := Lib.hid (show (kind.length + 1) * 8 ≤ 140737488355328 by omega)
  have HBZ := Lib.hid hB
  have HS := Lib.hid hS
  subst hu
  clear hUX hCX hS hlk hB
  go_enter Tryd.func42, Tryd.ntmps42
  go_wp2_with fail
  have hnUC : ¬ ((Value.slice U up.length uc).ownBlock = some p ∨ cv.ownBlock = some p) := fun h => h.elim hnU hnC
  have hQ : Hid (∀ X, Keeps (fun i => (Value.slice U up.length uc).ownBlock = some i ∨ cv.ownBlock = some i) W X → (X.cell? ⟨p, 3, none⟩ = some (.slice U up.length uc) ∧ X.cell? ⟨p, 4, none⟩ = some cv)) := fun X hk => ⟨hk.cell c3 hnUC, hk.cell c4 hnUC⟩
  refine wp_region_noPanic ?_
  refine wp_region_till [22, 25] (fun X => X.cell? ⟨p, 3, none⟩ = some (.slice U up.length uc) ∧ X.cell? ⟨p, 4, none⟩ = some cv) (by kernel_rfl) ?_ (fun hE => ?_)
  · exact hQ.out _ (by repeat (first | (with_reducible assumption) | (with_reducible exact Keeps.refl _ _) | (with_reducible refine Keeps.drewN ?_ _) | (with_reducible refine Keeps.drew ?_) | with_reducible refine Keeps.setCell ?_ (by first | (intro _; exact rfl) | (intro _; exact Or.inl rfl) | (intro _; exact Or.inr rfl) | (simp; done) | (simp; omega)) _ | (with_reducible refine Keeps.alloc ?_ _)))
  have hS := hE (by kernel_rfl)
  refine wpAnyT_pure (i := 0) (oi := { dst := some 5, op := Op.move (Operand.tmp 0), type := 73, pos := "kinds.go:61", after := #[], guard := none }) (v := ?v0) rfl (by kernel_rfl) (fun _ _ _ h => h) (Or.inl ⟨by rfl, ?y0⟩) (fun _ => hS) ?_
  case y0 => (intro w hSw; go_simp; try with_reducible rfl)
  try simp only [Act.put, List.setIfInBounds_toArray, List.set_cons_zero, List.set_cons_succ]
  refine wpAnyT_pure (i := 1) (oi := { dst := some 6, op := Op.move (Operand.tmp 0), type := 73, pos := "kinds.go:61", after := #[{ on := 22, ground := Ground.gcOnly Departure.lateStores }], guard := none }) (v := ?v1) rfl (by kernel_rfl) (fun _ _ _ h => h) (Or.inl ⟨by rfl, ?y1⟩) (fun _ => hS) ?_
  case y1 => (intro w hSw; go_simp; try with_reducible rfl)
  try simp only [Act.put, List.setIfInBounds_toArray, List.set_cons_zero, List.set_cons_succ]
  refine wpAnyT_pure (i := 2) (oi := { dst := some 7, op := Op.move (Operand.tmp 0), type := 73, pos := "kinds.go:61", after := #[], guard := none }) (v := ?v2) rfl (by kernel_rfl) (fun _ _ _ h => h) (Or.inl ⟨by rfl, ?y2⟩) (fun _ => hS) ?_
  case y2 => (intro w hSw; go_simp; try with_reducible rfl)
  try simp only [Act.put, List.setIfInBounds_toArray, List.set_cons_zero, List.set_cons_succ]
  refine wpAnyT_pure (i := 3) (oi := { dst := some 8, op := Op.nilCheck (Operand.tmp 7), type := 0, pos := "kinds.go:61", after := #[{ on := 2, ground := Ground.data }], guard := none }) (v := ?v3) rfl (by kernel_rfl) (fun _ _ _ h => h) (Or.inl ⟨by rfl, ?y3⟩) (fun _ => hS) ?_
  case y3 => (intro w hSw; go_simp; try with_reducible rfl)
  try simp only [Act.put, List.setIfInBounds_toArray, List.set_cons_zero, List.set_cons_succ]
  refine wpAnyT_pure (i := 4) (oi := { dst := some 9, op := Op.fieldAddr 76 (Operand.tmp 8) 3, type := 0, pos := "kinds.go:61", after := #[{ on := 3, ground := Ground.data }], guard := none }) (v := ?v4) rfl (by kernel_rfl) (fun _ _ _ h => h) (Or.inl ⟨by rfl, ?y4⟩) (fun _ => hS) ?_
  case y4 => (intro w hSw; go_simp; try with_reducible rfl)
  try simp only [Act.put, List.setIfInBounds_toArray, List.set_cons_zero, List.set_cons_succ]
  refine wpAnyT_take (i := 5) (oi := { dst := some 10, op := Op.load 27 (Operand.tmp 9), type := 27, pos := "kinds.go:61", after := #[{ on := 4, ground := Ground.data }], guard := none }) (v := ?v5) rfl (by kernel_rfl) (fun _ _ _ h => h) (Or.inl ⟨by rfl, ?y5⟩) hS ?_
  case y5 => (intro w hSw; (try dsimp only at hSw); go_simp; try with_reducible rfl)
  try simp only [Act.put, List.setIfInBounds_toArray, List.set_cons_zero, List.set_cons_succ]
  refine wpAnyT_pure (i := 6) (oi := { dst := some 11, op := Op.move (Operand.tmp 0), type := 73, pos := "kinds.go:61", after := #[], guard := none }) (v := ?v6) rfl (by kernel_rfl) (fun _ _ _ h => h) (Or.inl ⟨by rfl, ?y6⟩) (fun _ => hS) ?_
  case y6 => (intro w hSw; go_simp; try with_reducible rfl)
  try simp only [Act.put, List.setIfInBounds_toArray, List.set_cons_zero, List.set_cons_succ]
  refine wpAnyT_pure (i := 7) (oi := { dst := some 12, op := Op.nilCheck (Operand.tmp 11), type := 0, pos := "kinds.go:61", after := #[{ on := 6, ground := Ground.data }], guard := none }) (v := ?v7) rfl (by kernel_rfl) (fun _ _ _ h => h) (Or.inl ⟨by rfl, ?y7⟩) (fun _ => hS) ?_
  case y7 => (intro w hSw; go_simp; try with_reducible rfl)
  try simp only [Act.put, List.setIfInBounds_toArray, List.set_cons_zero, List.set_cons_succ]
  refine wpAnyT_pure (i := 8) (oi := { dst := some 13, op := Op.fieldAddr 76 (Operand.tmp 12) 3, type := 0, pos := "kinds.go:61", after := #[{ on := 7, ground := Ground.data }], guard := none }) (v := ?v8) rfl (by kernel_rfl) (fun _ _ _ h => h) (Or.inl ⟨by rfl, ?y8⟩) (fun _ => hS) ?_
  case y8 => (intro w hSw; go_simp; try with_reducible rfl)
  try simp only [Act.put, List.setIfInBounds_toArray, List.set_cons_zero, List.set_cons_succ]
  refine wpAnyT_take (i := 9) (oi := { dst := some 14, op := Op.load 27 (Operand.tmp 13), type := 27, pos := "kinds.go:61", after := #[{ on := 8, ground := Ground.data }], guard := none }) (v := ?v9) rfl (by kernel_rfl) (fun _ _ _ h => h) (Or.inl ⟨by rfl, ?y9⟩) hS ?_
  case y9 => (intro w hSw; (try dsimp only at hSw); go_simp; try with_reducible rfl)
  try simp only [Act.put, List.setIfInBounds_toArray, List.set_cons_zero, List.set_cons_succ]
  refine wpAnyT_pure (i := 10) (oi := { dst := some 15, op := Op.call { callee := Callee.builtin Builtin.len, args := #[Operand.tmp 14], argTypes := #[27] }, type := 3, pos := "kinds.go:61", after := #[{ on := 9, ground := Ground.data }], guard := none }) (v := ?v10) rfl (by kernel_rfl) (fun _ _ _ h => h) (Or.inl ⟨by rfl, ?y10⟩) (fun _ => hS) ?_
  case y10 => (intro w hSw; go_simp; try with_reducible rfl)
  try simp only [Act.put, List.setIfInBounds_toArray, List.set_cons_zero, List.set_cons_succ]
  refine wpAnyT_pure (i := 13) (oi := { dst := some 18, op := Op.move (Operand.tmp 0), type := 73, pos := "kinds.go:61", after := #[], guard := none }) (v := ?v13) rfl (by kernel_rfl) (fun _ _ _ h => h) (Or.inl ⟨by rfl, ?y13⟩) (fun _ => hS) ?_
  case y13 => (intro w hSw; go_simp; try with_reducible rfl)
  try simp only [Act.put, List.setIfInBounds_toArray, List.set_cons_zero, List.set_cons_succ]
  refine wpAnyT_pure (i := 14) (oi := { dst := some 19, op := Op.nilCheck (Operand.tmp 18), type := 0, pos := "kinds.go:61", after := #[{ on := 13, ground := Ground.data }], guard := none }) (v := ?v14) rfl (by kernel_rfl) (fun _ _ _ h => h) (Or.inl ⟨by rfl, ?y14⟩) (fun _ => hS) ?_
  case y14 => (intro w hSw; go_simp; try with_reducible rfl)
  try simp only [Act.put, List.setIfInBounds_toArray, List.set_cons_zero, List.set_cons_succ]
  refine wpAnyT_pure (i := 15) (oi := { dst := some 20, op := Op.fieldAddr 76 (Operand.tmp 19) 4, type := 0, pos := "kinds.go:61", after := #[{ on := 14, ground := Ground.data }], guard := none }) (v := ?v15) rfl (by kernel_rfl) (fun _ _ _ h => h) (Or.inl ⟨by rfl, ?y15⟩) (fun _ => hS) ?_
  case y15 => (intro w hSw; go_simp; try with_reducible rfl)
  try simp only [Act.put, List.setIfInBounds_toArray, List.set_cons_zero, List.set_cons_succ]
  refine wpAnyT_take (i := 16) (oi := { dst := some 21, op := Op.load 27 (Operand.tmp 20), type := 27, pos := "kinds.go:61", after := #[{ on := 15, ground := Ground.data }], guard := none }) (v := ?v16) rfl (by kernel_rfl) (fun _ _ _ h => h) (Or.inl ⟨by rfl, ?y16⟩) hS ?_
  case y16 => (intro w hSw; (try dsimp only at hSw); go_simp; try with_reducible rfl)
  try simp only [Act.put, List.setIfInBounds_toArray, List.set_cons_zero, List.set_cons_succ]
  refine wpAnyT_pure (i := 17) (oi := { dst := some 22, op := Op.move (Operand.tmp 1), type := 3, pos := "kinds.go:61", after := #[], guard := none }) (v := ?v17) rfl (by kernel_rfl) (fun _ _ _ h => h) (Or.inl ⟨by rfl, ?y17⟩) (fun _ => hS) ?_
  case y17 => (intro w hSw; go_simp; try with_reducible rfl)
  try simp only [Act.put, List.setIfInBounds_toArray, List.set_cons_zero, List.set_cons_succ]
  refine wpAnyT_ready (rs := [11, 18]) (by kernel_rfl) rfl ?_
  refine AllT.cons (o := { dst := some 16, op := Op.buildSlice 27 1 #[(0, Operand.tmp 15)], type := 27, pos := "kinds.go:61", after := #[{ on := 10, ground := Ground.data }], guard := none }) rfl (fun K hK => ?_) ?_
  · go_simp
    refine hK.out _ _ (fun _ => ?_) (fun hE => ?_)
    · exact hQ.out _ (by repeat (first | (with_reducible assumption) | (with_reducible exact Keeps.refl _ _) | (with_reducible refine Keeps.drewN ?_ _) | (with_reducible refine Keeps.drew ?_) | with_reducible refine Keeps.setCell ?_ (by first | (intro _; exact rfl) | (intro _; exact Or.inl rfl) | (intro _; exact Or.inr rfl) | (simp; done) | (simp; omega)) _ | (with_reducible refine Keeps.alloc ?_ _)))
    have hS := hE (by kernel_rfl)
    clear hK K hE
    try simp only [Act.put, List.setIfInBounds_toArray, List.set_cons_zero, List.set_cons_succ]
    refine wpAnyT_ready (rs := [12, 18]) (by kernel_rfl) rfl ?_
    refine AllT.cons (o := { dst := some 17, op := Op.call { callee := Callee.builtin Builtin.append, args := #[Operand.tmp 10, Operand.tmp 16], argTypes := #[27, 27] }, type := 27, pos := "kinds.go:61", after := #[{ on := 5, ground := Ground.data }, { on := 11, ground := Ground.data }], guard := none }) rfl (fun K hK => ?_) ?_
    · (refine step_append_kept (W0 := W) rfl (.tmp 10) (.tmp 16) 27 rfl B 3 i0 _ 1 8 Tryd.underlying27 hi0 hz0 hz1 hz2 rfl (by decide) (.slice U up.length uc) up.length UX rfl HU.out (by repeat (first | with_reducible exact Keeps.refl _ _ | with_reducible refine Keeps.drew ?_ | with_reducible refine Keeps.alloc ?_ _)) _ _ #[.int .i64 (up.length : Int)] rfl rfl (by first | exact heap_new_at (by simp) | exact heap_up (heap_new_at (by simp)) _) (by simp [Value.oneCell']) HMu.out HBu.out HBZ.out ?_; intro gg1 cap1 w2 hown1 hk1 hpre hat1; have hkA : Keeps (fun i => (Value.slice U up.length uc).ownBlock = some i ∨ cv.ownBlock = some i) W w2 := hk1.mono (fun i _ h => .inl h))
      refine hK.out _ _ (fun _ => ?_) (fun hE => ?_)
      · exact hQ.out _ (by repeat (first | (with_reducible assumption) | (with_reducible exact Keeps.refl _ _) | (with_reducible refine Keeps.drewN ?_ _) | (with_reducible refine Keeps.drew ?_) | with_reducible refine Keeps.setCell ?_ (by first | (intro _; exact rfl) | (intro _; exact Or.inl rfl) | (intro _; exact Or.inr rfl) | (simp; done) | (simp; omega)) _ | (with_reducible refine Keeps.alloc ?_ _)))
      have hS := hE (by kernel_rfl)
      clear hK K hE
      try simp only [Act.put, List.setIfInBounds_toArray, List.set_cons_zero, List.set_cons_succ]
      refine wpAnyT_ready (rs := [18]) (by kernel_rfl) rfl ?_
      refine AllT.cons (o := { dst := some 23, op := Op.buildSlice 27 1 #[(0, Operand.tmp 22)], type := 27, pos := "kinds.go:61", after := #[{ on := 17, ground := Ground.data }], guard := none }) rfl (fun K hK => ?_) ?_
      · go_simp
        refine hK.out _ _ (fun _ => ?_) (fun hE => ?_)
        · exact hQ.out _ (by repeat (first | (with_reducible assumption) | (with_reducible exact Keeps.refl _ _) | (with_reducible refine Keeps.drewN ?_ _) | (with_reducible refine Keeps.drew ?_) | with_reducible refine Keeps.setCell ?_ (by first | (intro _; exact rfl) | (intro _; exact Or.inl rfl) | (intro _; exact Or.inr rfl) | (simp; done) | (simp; omega)) _ | (with_reducible refine Keeps.alloc ?_ _)))
        have hS := hE (by kernel_rfl)
        clear hK K hE
        try simp only [Act.put, List.setIfInBounds_toArray, List.set_cons_zero, List.set_cons_succ]
        refine wpAnyT_ready (rs := [19]) (by kernel_rfl) rfl ?_
        refine AllT.cons (o := { dst := some 24, op := Op.call { callee := Callee.builtin Builtin.append, args := #[Operand.tmp 21, Operand.tmp 23], argTypes := #[27, 27] }, type := 27, pos := "kinds.go:61", after := #[{ on := 16, ground := Ground.data }, { on := 18, ground := Ground.data }, { on := 12, ground := Ground.chain }], guard := none }) rfl (fun K hK => ?_) ?_
        · (refine step_append_kept (W0 := w2) rfl (.tmp 21) (.tmp 23) 27 rfl B 3 i0 _ 1 8 Tryd.underlying27 hi0 hz0 hz1 hz2 rfl (by decide) cv kind.length CX rfl (own_keeps HC.out hk1 HCU.out) (by repeat (first | with_reducible exact Keeps.refl _ _ | with_reducible refine Keeps.drew ?_ | with_reducible refine Keeps.alloc ?_ _)) _ _ #[.int .i64 kd] rfl rfl (by first | exact heap_new_at (by simp) | exact hpre _ _ (by first | exact heap_new_at (by simp) | exact heap_up (heap_new_at (by simp)) _) (fun e => by have := (HU.out.lt _ e).2; omega)) (by simp [Value.oneCell']) HMc.out HBc.out (Nat.le_trans HBZ.out hk1.size) ?_; intro gg2 cap2 w3 hown2 hk2 hpre2 hat2; have hkB : Keeps (fun i => (Value.slice U up.length uc).ownBlock = some i ∨ cv.ownBlock = some i) W w3 := hkA.trans hk2 (fun i _ h => .inr h); have q3 := hkB.cell c3 hnUC; have q4 := hkB.cell c4 hnUC; have qf3 := hkB.frozen f3 hpl hnUC; have qf4 := hkB.frozen f4 hpl hnUC; have qz := Nat.lt_of_lt_of_le hpl hkB.size)
          refine hK.out _ _ (fun _ => ?_) (fun hE => ?_)
          · exact hQ.out _ (by repeat (first | (with_reducible assumption) | (with_reducible exact Keeps.refl _ _) | (with_reducible refine Keeps.drewN ?_ _) | (with_reducible refine Keeps.drew ?_) | with_reducible refine Keeps.setCell ?_ (by first | (intro _; exact rfl) | (intro _; exact Or.inl rfl) | (intro _; exact Or.inr rfl) | (simp; done) | (simp; omega)) _ | (with_reducible refine Keeps.alloc ?_ _)))
          have hS := hE (by kernel_rfl)
          clear hK K hE
          try simp only [Act.put, List.setIfInBounds_toArray, List.set_cons_zero, List.set_cons_succ]
          refine wpAnyT_pure (i := 20) (oi := { dst := some 25, op := Op.nilCheck (Operand.tmp 5), type := 0, pos := "kinds.go:61", after := #[{ on := 0, ground := Ground.data }, { on := 0, ground := Ground.phase }, { on := 1, ground := Ground.textOnly Departure.lateStores }, { on := 2, ground := Ground.phase }, { on := 3, ground := Ground.phase }, { on := 4, ground := Ground.phase }, { on := 5, ground := Ground.phase }, { on := 6, ground := Ground.phase }, { on := 7, ground := Ground.phase }, { on := 8, ground := Ground.phase }, { on := 9, ground := Ground.phase }, { on := 10, ground := Ground.phase }, { on := 11, ground := Ground.phase }, { on := 12, ground := Ground.phase }, { on := 13, ground := Ground.textOnly Departure.lateStores }, { on := 14, ground := Ground.textOnly Departure.lateStoresUnsure }, { on := 15, ground := Ground.textOnly Departure.lateStoresUnsure }, { on := 16, ground := Ground.phase }, { on := 17, ground := Ground.textOnly Departure.lateStores }, { on := 18, ground := Ground.textOnly Departure.lateStoresUnsure }, { on := 19, ground := Ground.phase }], guard := none }) (v := ?v20) rfl (by kernel_rfl) (fun _ _ _ h => h) (Or.inl ⟨by rfl, ?y20⟩) (fun _ => hS) ?_
          case y20 => (intro w hSw; go_simp; try with_reducible rfl)
          try simp only [Act.put, List.setIfInBounds_toArray, List.set_cons_zero, List.set_cons_succ]
          refine wpAnyT_pure (i := 21) (oi := { dst := some 26, op := Op.fieldAddr 76 (Operand.tmp 25) 3, type := 0, pos := "kinds.go:61", after := #[{ on := 20, ground := Ground.data }, { on := 0, ground := Ground.phase }, { on := 1, ground := Ground.textOnly Departure.lateStores }, { on := 2, ground := Ground.phase }, { on := 3, ground := Ground.phase }, { on := 4, ground := Ground.phase }, { on := 5, ground := Ground.phase }, { on := 6, ground := Ground.phase }, { on := 7, ground := Ground.phase }, { on := 8, ground := Ground.phase }, { on := 9, ground := Ground.phase }, { on := 10, ground := Ground.phase }, { on := 11, ground := Ground.phase }, { on := 12, ground := Ground.phase }, { on := 13, ground := Ground.textOnly Departure.lateStores }, { on := 14, ground := Ground.textOnly Departure.lateStoresUnsure }, { on := 15, ground := Ground.textOnly Departure.lateStoresUnsure }, { on := 16, ground := Ground.phase }, { on := 17, ground := Ground.textOnly Departure.lateStores }, { on := 18, ground := Ground.textOnly Departure.lateStoresUnsure }, { on := 19, ground := Ground.phase }], guard := none }) (v := ?v21) rfl (by kernel_rfl) (fun _ _ _ h => h) (Or.inl ⟨by rfl, ?y21⟩) (fun _ => hS) ?_
          case y21 => (intro w hSw; go_simp; try with_reducible rfl)
          try simp only [Act.put, List.setIfInBounds_toArray, List.set_cons_zero, List.set_cons_succ]
          refine wpAnyT_ready (rs := [22]) (by kernel_rfl) rfl ?_
          refine AllT.cons (o := { dst := none, op := Op.store 27 (Operand.tmp 26) (Operand.tmp 17), type := 0, pos := "kinds.go:61", after := #[{ on := 21, ground := Ground.data }, { on := 12, ground := Ground.data }, { on := 19, ground := Ground.chain }, { on := 0, ground := Ground.phase }, { on := 1, ground := Ground.textOnly Departure.lateStores }, { on := 2, ground := Ground.phase }, { on := 3, ground := Ground.phase }, { on := 4, ground := Ground.phase }, { on := 5, ground := Ground.phase }, { on := 6, ground := Ground.phase }, { on := 7, ground := Ground.phase }, { on := 8, ground := Ground.phase }, { on := 9, ground := Ground.phase }, { on := 10, ground := Ground.phase }, { on := 11, ground := Ground.phase }, { on := 12, ground := Ground.phase }, { on := 13, ground := Ground.textOnly Departure.lateStores }, { on := 14, ground := Ground.textOnly Departure.lateStoresUnsure }, { on := 15, ground := Ground.textOnly Departure.lateStoresUnsure }, { on := 16, ground := Ground.phase }, { on := 17, ground := Ground.textOnly Departure.lateStores }, { on := 18, ground := Ground.textOnly Departure.lateStoresUnsure }, { on := 19, ground := Ground.phase }], guard := none }) rfl (fun K hK => ?_) ?_
          · go_simp
            refine hK.out _ _ (fun he => Bool.noConfusion (show false = true from he)) (fun hE => ?_)
            clear hK K hE
            try simp only [Act.put, List.setIfInBounds_toArray, List.set_cons_zero, List.set_cons_succ]
            refine wpAnyT_pure (i := 23) (oi := { dst := some 27, op := Op.nilCheck (Operand.tmp 6), type := 0, pos := "kinds.go:61", after := #[{ on := 1, ground := Ground.data }, { on := 0, ground := Ground.phase }, { on := 1, ground := Ground.phase }, { on := 2, ground := Ground.phase }, { on := 3, ground := Ground.phase }, { on := 4, ground := Ground.phase }, { on := 5, ground := Ground.phase }, { on := 6, ground := Ground.phase }, { on := 7, ground := Ground.phase }, { on := 8, ground := Ground.phase }, { on := 9, ground := Ground.phase }, { on := 10, ground := Ground.phase }, { on := 11, ground := Ground.phase }, { on := 12, ground := Ground.phase }, { on := 13, ground := Ground.phase }, { on := 14, ground := Ground.phase }, { on := 15, ground := Ground.phase }, { on := 16, ground := Ground.phase }, { on := 17, ground := Ground.phase }, { on := 18, ground := Ground.phase }, { on := 19, ground := Ground.phase }, { on := 20, ground := Ground.phase }, { on := 21, ground := Ground.phase }, { on := 22, ground := Ground.phase }], guard := none }) (v := ?v23) rfl (by kernel_rfl) (fun _ _ _ h => h) (Or.inl ⟨by rfl, ?y23⟩) (fun he => Bool.noConfusion (show false = true from he)) ?_
            case y23 => (intro w hSw; go_simp; try with_reducible rfl)
            try simp only [Act.put, List.setIfInBounds_toArray, List.set_cons_zero, List.set_cons_succ]
            refine wpAnyT_pure (i := 24) (oi := { dst := some 28, op := Op.fieldAddr 76 (Operand.tmp 27) 4, type := 0, pos := "kinds.go:61", after := #[{ on := 23, ground := Ground.data }, { on := 0, ground := Ground.phase }, { on := 1, ground := Ground.phase }, { on := 2, ground := Ground.phase }, { on := 3, ground := Ground.phase }, { on := 4, ground := Ground.phase }, { on := 5, ground := Ground.phase }, { on := 6, ground := Ground.phase }, { on := 7, ground := Ground.phase }, { on := 8, ground := Ground.phase }, { on := 9, ground := Ground.phase }, { on := 10, ground := Ground.phase }, { on := 11, ground := Ground.phase }, { on := 12, ground := Ground.phase }, { on := 13, ground := Ground.phase }, { on := 14, ground := Ground.phase }, { on := 15, ground := Ground.phase }, { on := 16, ground := Ground.phase }, { on := 17, ground := Ground.phase }, { on := 18, ground := Ground.phase }, { on := 19, ground := Ground.phase }, { on := 20, ground := Ground.phase }, { on := 21, ground := Ground.phase }, { on := 22, ground := Ground.phase }], guard := none }) (v := ?v24) rfl (by kernel_rfl) (fun _ _ _ h => h) (Or.inl ⟨by rfl, ?y24⟩) (fun he => Bool.noConfusion (show false = true from he)) ?_
            case y24 => (intro w hSw; go_simp; try with_reducible rfl)
            try simp only [Act.put, List.setIfInBounds_toArray, List.set_cons_zero, List.set_cons_succ]
            refine wpAnyT_ready (rs := [25]) (by kernel_rfl) rfl ?_
            refine AllT.cons (o := { dst := none, op := Op.store 27 (Operand.tmp 28) (Operand.tmp 24), type := 0, pos := "kinds.go:61", after := #[{ on := 24, ground := Ground.data }, { on := 19, ground := Ground.data }, { on := 22, ground := Ground.chain }, { on := 0, ground := Ground.phase }, { on := 1, ground := Ground.phase }, { on := 2, ground := Ground.phase }, { on := 3, ground := Ground.phase }, { on := 4, ground := Ground.phase }, { on := 5, ground := Ground.phase }, { on := 6, ground := Ground.phase }, { on := 7, ground := Ground.phase }, { on := 8, ground := Ground.phase }, { on := 9, ground := Ground.phase }, { on := 10, ground := Ground.phase }, { on := 11, ground := Ground.phase }, { on := 12, ground := Ground.phase }, { on := 13, ground := Ground.phase }, { on := 14, ground := Ground.phase }, { on := 15, ground := Ground.phase }, { on := 16, ground := Ground.phase }, { on := 17, ground := Ground.phase }, { on := 18, ground := Ground.phase }, { on := 19, ground := Ground.phase }, { on := 20, ground := Ground.phase }, { on := 21, ground := Ground.phase }, { on := 22, ground := Ground.phase }], guard := none }) rfl (fun K hK => ?_) ?_
            · go_simp
              refine hK.out _ _ (fun he => Bool.noConfusion (show false = true from he)) (fun hE => ?_)
              clear hK K hE
              try simp only [Act.put, List.setIfInBounds_toArray, List.set_cons_zero, List.set_cons_succ]
              refine wpAnyT_done (by kernel_rfl) ?_ _
              refine NoPanic.normal ?_
              obtain ⟨hSv, hBel⟩ := HS.out.pushed HBZ.out kd (by rw [HUX.out]; exact hown1) hk1 hat1 (by rw [HCX.out]; exact hown2) hk2 hat2
              have z3 := hSv.blk.cell (i := 3) rfl
              have HSv := Lib.hid hSv
              have HBel := Lib.hid hBel
              clear hSv hBel hown1 hown2 hk1 hk2 hat1 hat2 hpre hpre2 hkA hkB q3 q4 qf3 qf4 qz
              go_wp2_with fail
              go_ret
              exact ⟨by first | rfl | (simp; omega), HBel.out, _, _, HSv.out⟩
            exact AllT.nil
          exact AllT.nil
        exact AllT.nil
      exact AllT.nil
    refine AllT.cons (o := { dst := some 23, op := Op.buildSlice 27 1 #[(0, Operand.tmp 22)], type := 27, pos := "kinds.go:61", after := #[{ on := 17, ground := Ground.data }], guard := none }) rfl (fun K hK => ?_) ?_
    · go_simp
      refine hK.out _ _ (fun _ => ?_) (fun hE => ?_)
      · exact hQ.out _ (by repeat (first | (with_reducible assumption) | (with_reducible exact Keeps.refl _ _) | (with_reducible refine Keeps.drewN ?_ _) | (with_reducible refine Keeps.drew ?_) | with_reducible refine Keeps.setCell ?_ (by first | (intro _; exact rfl) | (intro _; exact Or.inl rfl) | (intro _; exact Or.inr rfl) | (simp; done) | (simp; omega)) _ | (with_reducible refine Keeps.alloc ?_ _)))
      have hS := hE (by kernel_rfl)
      clear hK K hE
      try simp only [Act.put, List.setIfInBounds_toArray, List.set_cons_zero, List.set_cons_succ]
      refine wpAnyT_ready (rs := [12]) (by kernel_rfl) rfl ?_
      refine AllT.cons (o := { dst := some 17, op := Op.call { callee := Callee.builtin Builtin.append, args := #[Operand.tmp 10, Operand.tmp 16], argTypes := #[27, 27] }, type := 27, pos := "kinds.go:61", after := #[{ on := 5, ground := Ground.data }, { on := 11, ground := Ground.data }], guard := none }) rfl (fun K hK => ?_) ?_
      · (refine step_append_kept (W0 := W) rfl (.tmp 10) (.tmp 16) 27 rfl B 3 i0 _ 1 8 Tryd.underlying27 hi0 hz0 hz1 hz2 rfl (by decide) (.slice U up.length uc) up.length UX rfl HU.out (by repeat (first | with_reducible exact Keeps.refl _ _ | with_reducible refine Keeps.drew ?_ | with_reducible refine Keeps.alloc ?_ _)) _ _ #[.int .i64 (up.length : Int)] rfl rfl (by first | exact heap_new_at (by simp) | exact heap_up (heap_new_at (by simp)) _) (by simp [Value.oneCell']) HMu.out HBu.out HBZ.out ?_; intro gg1 cap1 w2 hown1 hk1 hpre hat1; have hkA : Keeps (fun i => (Value.slice U up.length uc).ownBlock = some i ∨ cv.ownBlock = some i) W w2 := hk1.mono (fun i _ h => .inl h))
        refine hK.out _ _ (fun _ => ?_) (fun hE => ?_)
        · exact hQ.out _ (by repeat (first | (with_reducible assumption) | (with_reducible exact Keeps.refl _ _) | (with_reducible refine Keeps.drewN ?_ _) | (with_reducible refine Keeps.drew ?_) | with_reducible refine Keeps.setCell ?_ (by first | (intro _; exact rfl) | (intro _; exact Or.inl rfl) | (intro _; exact Or.inr rfl) | (simp; done) | (simp; omega)) _ | (with_reducible refine Keeps.alloc ?_ _)))
        have hS := hE (by kernel_rfl)
        clear hK K hE
        try simp only [Act.put, List.setIfInBounds_toArray, List.set_cons_zero, List.set_cons_succ]
        refine wpAnyT_ready (rs := [19]) (by kernel_rfl) rfl ?_
        refine AllT.cons (o := { dst := some 24, op := Op.call { callee := Callee.builtin Builtin.append, args := #[Operand.tmp 21, Operand.tmp 23], argTypes := #[27, 27] }, type := 27, pos := "kinds.go:61", after := #[{ on := 16, ground := Ground.data }, { on := 18, ground := Ground.data }, { on := 12, ground := Ground.chain }], guard := none }) rfl (fun K hK => ?_) ?_
        · (refine step_append_kept (W0 := w2) rfl (.tmp 21) (.tmp 23) 27 rfl B 3 i0 _ 1 8 Tryd.underlying27 hi0 hz0 hz1 hz2 rfl (by decide) cv kind.length CX rfl (own_keeps HC.out hk1 HCU.out) (by repeat (first | with_reducible exact Keeps.refl _ _ | with_reducible refine Keeps.drew ?_ | with_reducible refine Keeps.alloc ?_ _)) _ _ #[.int .i64 kd] rfl rfl (by first | exact heap_new_at (by simp) | exact hpre _ _ (by first | exact heap_new_at (by simp) | exact heap_up (heap_new_at (by simp)) _) (fun e => by have := (HU.out.lt _ e).2; omega)) (by simp [Value.oneCell']) HMc.out HBc.out (Nat.le_trans HBZ.out hk1.size) ?_; intro gg2 cap2 w3 hown2 hk2 hpre2 hat2; have hkB : Keeps (fun i => (Value.slice U up.length uc).ownBlock = some i ∨ cv.ownBlock = some i) W w3 := hkA.trans hk2 (fun i _ h => .inr h); have q3 := hkB.cell c3 hnUC; have q4 := hkB.cell c4 hnUC; have qf3 := hkB.frozen f3 hpl hnUC; have qf4 := hkB.frozen f4 hpl hnUC; have qz := Nat.lt_of_lt_of_le hpl hkB.size)
          refine hK.out _ _ (fun _ => ?_) (fun hE => ?_)
          · exact hQ.out _ (by repeat (first | (with_reducible assumption) | (with_reducible exact Keeps.refl _ _) | (with_reducible refine Keeps.drewN ?_ _) | (with_reducible refine Keeps.drew ?_) | with_reducible refine Keeps.setCell ?_ (by first | (intro _; exact rfl) | (intro _; exact Or.inl rfl) | (intro _; exact Or.inr rfl) | (simp; done) | (simp; omega)) _ | (with_reducible refine Keeps.alloc ?_ _)))
          have hS := hE (by kernel_rfl)
          clear hK K hE
          try simp only [Act.put, List.setIfInBounds_toArray, List.set_cons_zero, List.set_cons_succ]
          refine wpAnyT_pure (i := 20) (oi := { dst := some 25, op := Op.nilCheck (Operand.tmp 5), type := 0, pos := "kinds.go:61", after := #[{ on := 0, ground := Ground.data }, { on := 0, ground := Ground.phase }, { on := 1, ground := Ground.textOnly Departure.lateStores }, { on := 2, ground := Ground.phase }, { on := 3, ground := Ground.phase }, { on := 4, ground := Ground.phase }, { on := 5, ground := Ground.phase }, { on := 6, ground := Ground.phase }, { on := 7, ground := Ground.phase }, { on := 8, ground := Ground.phase }, { on := 9, ground := Ground.phase }, { on := 10, ground := Ground.phase }, { on := 11, ground := Ground.phase }, { on := 12, ground := Ground.phase }, { on := 13, ground := Ground.textOnly Departure.lateStores }, { on := 14, ground := Ground.textOnly Departure.lateStoresUnsure }, { on := 15, ground := Ground.textOnly Departure.lateStoresUnsure }, { on := 16, ground := Ground.phase }, { on := 17, ground := Ground.textOnly Departure.lateStores }, { on := 18, ground := Ground.textOnly Departure.lateStoresUnsure }, { on := 19, ground := Ground.phase }], guard := none }) (v := ?v20) rfl (by kernel_rfl) (fun _ _ _ h => h) (Or.inl ⟨by rfl, ?y20⟩) (fun _ => hS) ?_
          case y20 => (intro w hSw; go_simp; try with_reducible rfl)
          try simp only [Act.put, List.setIfInBounds_toArray, List.set_cons_zero, List.set_cons_succ]
          refine wpAnyT_pure (i := 21) (oi := { dst := some 26, op := Op.fieldAddr 76 (Operand.tmp 25) 3, type := 0, pos := "kinds.go:61", after := #[{ on := 20, ground := Ground.data }, { on := 0, ground := Ground.phase }, { on := 1, ground := Ground.textOnly Departure.lateStores }, { on := 2, ground := Ground.phase }, { on := 3, ground := Ground.phase }, { on := 4, ground := Ground.phase }, { on := 5, ground := Ground.phase }, { on := 6, ground := Ground.phase }, { on := 7, ground := Ground.phase }, { on := 8, ground := Ground.phase }, { on := 9, ground := Ground.phase }, { on := 10, ground := Ground.phase }, { on := 11, ground := Ground.phase }, { on := 12, ground := Ground.phase }, { on := 13, ground := Ground.textOnly Departure.lateStores }, { on := 14, ground := Ground.textOnly Departure.lateStoresUnsure }, { on := 15, ground := Ground.textOnly Departure.lateStoresUnsure }, { on := 16, ground := Ground.phase }, { on := 17, ground := Ground.textOnly Departure.lateStores }, { on := 18, ground := Ground.textOnly Departure.lateStoresUnsure }, { on := 19, ground := Ground.phase }], guard := none }) (v := ?v21) rfl (by kernel_rfl) (fun _ _ _ h => h) (Or.inl ⟨by rfl, ?y21⟩) (fun _ => hS) ?_
          case y21 => (intro w hSw; go_simp; try with_reducible rfl)
          try simp only [Act.put, List.setIfInBounds_toArray, List.set_cons_zero, List.set_cons_succ]
          refine wpAnyT_ready (rs := [22]) (by kernel_rfl) rfl ?_
          refine AllT.cons (o := { dst := none, op := Op.store 27 (Operand.tmp 26) (Operand.tmp 17), type := 0, pos := "kinds.go:61", after := #[{ on := 21, ground := Ground.data }, { on := 12, ground := Ground.data }, { on := 19, ground := Ground.chain }, { on := 0, ground := Ground.phase }, { on := 1, ground := Ground.textOnly Departure.lateStores }, { on := 2, ground := Ground.phase }, { on := 3, ground := Ground.phase }, { on := 4, ground := Ground.phase }, { on := 5, ground := Ground.phase }, { on := 6, ground := Ground.phase }, { on := 7, ground := Ground.phase }, { on := 8, ground := Ground.phase }, { on := 9, ground := Ground.phase }, { on := 10, ground := Ground.phase }, { on := 11, ground := Ground.phase }, { on := 12, ground := Ground.phase }, { on := 13, ground := Ground.textOnly Departure.lateStores }, { on := 14, ground := Ground.textOnly Departure.lateStoresUnsure }, { on := 15, ground := Ground.textOnly Departure.lateStoresUnsure }, { on := 16, ground := Ground.phase }, { on := 17, ground := Ground.textOnly Departure.lateStores }, { on := 18, ground := Ground.textOnly Departure.lateStoresUnsure }, { on := 19, ground := Ground.phase }], guard := none }) rfl (fun K hK => ?_) ?_
          · go_simp
            refine hK.out _ _ (fun he => Bool.noConfusion (show false = true from he)) (fun hE => ?_)
            clear hK K hE
            try simp only [Act.put, List.setIfInBounds_toArray, List.set_cons_zero, List.set_cons_succ]
            refine wpAnyT_pure (i := 23) (oi := { dst := some 27, op := Op.nilCheck (Operand.tmp 6), type := 0, pos := "kinds.go:61", after := #[{ on := 1, ground := Ground.data }, { on := 0, ground := Ground.phase }, { on := 1, ground := Ground.phase }, { on := 2, ground := Ground.phase }, { on := 3, ground := Ground.phase }, { on := 4, ground := Ground.phase }, { on := 5, ground := Ground.phase }, { on := 6, ground := Ground.phase }, { on := 7, ground := Ground.phase }, { on := 8, ground := Ground.phase }, { on := 9, ground := Ground.phase }, { on := 10, ground := Ground.phase }, { on := 11, ground := Ground.phase }, { on := 12, ground := Ground.phase }, { on := 13, ground := Ground.phase }, { on := 14, ground := Ground.phase }, { on := 15, ground := Ground.phase }, { on := 16, ground := Ground.phase }, { on := 17, ground := Ground.phase }, { on := 18, ground := Ground.phase }, { on := 19, ground := Ground.phase }, { on := 20, ground := Ground.phase }, { on := 21, ground := Ground.phase }, { on := 22, ground := Ground.phase }], guard := none }) (v := ?v23) rfl (by kernel_rfl) (fun _ _ _ h => h) (Or.inl ⟨by rfl, ?y23⟩) (fun he => Bool.noConfusion (show false = true from he)) ?_
            case y23 => (intro w hSw; go_simp; try with_reducible rfl)
            try simp only [Act.put, List.setIfInBounds_toArray, List.set_cons_zero, List.set_cons_succ]
            refine wpAnyT_pure (i := 24) (oi := { dst := some 28, op := Op.fieldAddr 76 (Operand.tmp 27) 4, type := 0, pos := "kinds.go:61", after := #[{ on := 23, ground := Ground.data }, { on := 0, ground := Ground.phase }, { on := 1, ground := Ground.phase }, { on := 2, ground := Ground.phase }, { on := 3, ground := Ground.phase }, { on := 4, ground := Ground.phase }, { on := 5, ground := Ground.phase }, { on := 6, ground := Ground.phase }, { on := 7, ground := Ground.phase }, { on := 8, ground := Ground.phase }, { on := 9, ground := Ground.phase }, { on := 10, ground := Ground.phase }, { on := 11, ground := Ground.phase }, { on := 12, ground := Ground.phase }, { on := 13, ground := Ground.phase }, { on := 14, ground := Ground.phase }, { on := 15, ground := Ground.phase }, { on := 16, ground := Ground.phase }, { on := 17, ground := Ground.phase }, { on := 18, ground := Ground.phase }, { on := 19, ground := Ground.phase }, { on := 20, ground := Ground.phase }, { on := 21, ground := Ground.phase }, { on := 22, ground := Ground.phase }], guard := none }) (v := ?v24) rfl (by kernel_rfl) (fun _ _ _ h => h) (Or.inl ⟨by rfl, ?y24⟩) (fun he => Bool.noConfusion (show false = true from he)) ?_
            case y24 => (intro w hSw; go_simp; try with_reducible rfl)
            try simp only [Act.put, List.setIfInBounds_toArray, List.set_cons_zero, List.set_cons_succ]
            refine wpAnyT_ready (rs := [25]) (by kernel_rfl) rfl ?_
            refine AllT.cons (o := { dst := none, op := Op.store 27 (Operand.tmp 28) (Operand.tmp 24), type := 0, pos := "kinds.go:61", after := #[{ on := 24, ground := Ground.data }, { on := 19, ground := Ground.data }, { on := 22, ground := Ground.chain }, { on := 0, ground := Ground.phase }, { on := 1, ground := Ground.phase }, { on := 2, ground := Ground.phase }, { on := 3, ground := Ground.phase }, { on := 4, ground := Ground.phase }, { on := 5, ground := Ground.phase }, { on := 6, ground := Ground.phase }, { on := 7, ground := Ground.phase }, { on := 8, ground := Ground.phase }, { on := 9, ground := Ground.phase }, { on := 10, ground := Ground.phase }, { on := 11, ground := Ground.phase }, { on := 12, ground := Ground.phase }, { on := 13, ground := Ground.phase }, { on := 14, ground := Ground.phase }, { on := 15, ground := Ground.phase }, { on := 16, ground := Ground.phase }, { on := 17, ground := Ground.phase }, { on := 18, ground := Ground.phase }, { on := 19, ground := Ground.phase }, { on := 20, ground := Ground.phase }, { on := 21, ground := Ground.phase }, { on := 22, ground := Ground.phase }], guard := none }) rfl (fun K hK => ?_) ?_
            · go_simp
              refine hK.out _ _ (fun he => Bool.noConfusion (show false = true from he)) (fun hE => ?_)
              clear hK K hE
              try simp only [Act.put, List.setIfInBounds_toArray, List.set_cons_zero, List.set_cons_succ]
              refine wpAnyT_done (by kernel_rfl) ?_ _
              refine NoPanic.normal ?_
              obtain ⟨hSv, hBel⟩ := HS.out.pushed HBZ.out kd (by rw [HUX.out]; exact hown1) hk1 hat1 (by rw [HCX.out]; exact hown2) hk2 hat2
              have z3 := hSv.blk.cell (i := 3) rfl
              have HSv := Lib.hid hSv
              have HBel := Lib.hid hBel
              clear hSv hBel hown1 hown2 hk1 hk2 hat1 hat2 hpre hpre2 hkA hkB q3 q4 qf3 qf4 qz
              go_wp2_with fail
              go_ret
              exact ⟨by first | rfl | (simp; omega), HBel.out, _, _, HSv.out⟩
            exact AllT.nil
          exact AllT.nil
        exact AllT.nil
      exact AllT.nil
    exact AllT.nil
  refine AllT.cons (o := { dst := some 23, op := Op.buildSlice 27 1 #[(0, Operand.tmp 22)], type := 27, pos := "kinds.go:61", after := #[{ on := 17, ground := Ground.data }], guard := none }) rfl (fun K hK => ?_) ?_
  · go_simp
    refine hK.out _ _ (fun _ => ?_) (fun hE => ?_)
    · exact hQ.out _ (by repeat (first | (with_reducible assumption) | (with_reducible exact Keeps.refl _ _) | (with_reducible refine Keeps.drewN ?_ _) | (with_reducible refine Keeps.drew ?_) | with_reducible refine Keeps.setCell ?_ (by first | (intro _; exact rfl) | (intro _; exact Or.inl rfl) | (intro _; exact Or.inr rfl) | (simp; done) | (simp; omega)) _ | (with_reducible refine Keeps.alloc ?_ _)))
    have hS := hE (by kernel_rfl)
    clear hK K hE
    try simp only [Act.put, List.setIfInBounds_toArray, List.set_cons_zero, List.set_cons_succ]
    refine wpAnyT_ready (rs := [11]) (by kernel_rfl) rfl ?_
    refine AllT.cons (o := { dst := some 16, op := Op.buildSlice 27 1 #[(0, Operand.tmp 15)], type := 27, pos := "kinds.go:61", after := #[{ on := 10, ground := Ground.data }], guard := none }) rfl (fun K hK => ?_) ?_
    · go_simp
      refine hK.out _ _ (fun _ => ?_) (fun hE => ?_)
      · exact hQ.out _ (by repeat (first | (with_reducible assumption) | (with_reducible exact Keeps.refl _ _) | (with_reducible refine Keeps.drewN ?_ _) | (with_reducible refine Keeps.drew ?_) | with_reducible refine Keeps.setCell ?_ (by first | (intro _; exact rfl) | (intro _; exact Or.inl rfl) | (intro _; exact Or.inr rfl) | (simp; done) | (simp; omega)) _ | (with_reducible refine Keeps.alloc ?_ _)))
      have hS := hE (by kernel_rfl)
      clear hK K hE
      try simp only [Act.put, List.setIfInBounds_toArray, List.set_cons_zero, List.set_cons_succ]
      refine wpAnyT_ready (rs := [12]) (by kernel_rfl) rfl ?_
      refine AllT.cons (o := { dst := some 17, op := Op.call { callee := Callee.builtin Builtin.append, args := #[Operand.tmp 10, Operand.tmp 16], argTypes := #[27, 27] }, type := 27, pos := "kinds.go:61", after := #[{ on := 5, ground := Ground.data }, { on := 11, ground := Ground.data }], guard := none }) rfl (fun K hK => ?_) ?_
      · (refine step_append_kept (W0 := W) rfl (.tmp 10) (.tmp 16) 27 rfl B 3 i0 _ 1 8 Tryd.underlying27 hi0 hz0 hz1 hz2 rfl (by decide) (.slice U up.length uc) up.length UX rfl HU.out (by repeat (first | with_reducible exact Keeps.refl _ _ | with_reducible refine Keeps.drew ?_ | with_reducible refine Keeps.alloc ?_ _)) _ _ #[.int .i64 (up.length : Int)] rfl rfl (by first | exact heap_new_at (by simp) | exact heap_up (heap_new_at (by simp)) _) (by simp [Value.oneCell']) HMu.out HBu.out HBZ.out ?_; intro gg1 cap1 w2 hown1 hk1 hpre hat1; have hkA : Keeps (fun i => (Value.slice U up.length uc).ownBlock = some i ∨ cv.ownBlock = some i) W w2 := hk1.mono (fun i _ h => .inl h))
        refine hK.out _ _ (fun _ => ?_) (fun hE => ?_)
        · exact hQ.out _ (by repeat (first | (with_reducible assumption) | (with_reducible exact Keeps.refl _ _) | (with_reducible refine Keeps.drewN ?_ _) | (with_reducible refine Keeps.drew ?_) | with_reducible refine Keeps.setCell ?_ (by first | (intro _; exact rfl) | (intro _; exact Or.inl rfl) | (intro _; exact Or.inr rfl) | (simp; done) | (simp; omega)) _ | (with_reducible refine Keeps.alloc ?_ _)))
        have hS := hE (by kernel_rfl)
        clear hK K hE
        try simp only [Act.put, List.setIfInBounds_toArray, List.set_cons_zero, List.set_cons_succ]
        refine wpAnyT_ready (rs := [19]) (by kernel_rfl) rfl ?_
        refine AllT.cons (o := { dst := some 24, op := Op.call { callee := Callee.builtin Builtin.append, args := #[Operand.tmp 21, Operand.tmp 23], argTypes := #[27, 27] }, type := 27, pos := "kinds.go:61", after := #[{ on := 16, ground := Ground.data }, { on := 18, ground := Ground.data }, { on := 12, ground := Ground.chain }], guard := none }) rfl (fun K hK => ?_) ?_
        · (refine step_append_kept (W0 := w2) rfl (.tmp 21) (.tmp 23) 27 rfl B 3 i0 _ 1 8 Tryd.underlying27 hi0 hz0 hz1 hz2 rfl (by decide) cv kind.length CX rfl (own_keeps HC.out hk1 HCU.out) (by repeat (first | with_reducible exact Keeps.refl _ _ | with_reducible refine Keeps.drew ?_ | with_reducible refine Keeps.alloc ?_ _)) _ _ #[.int .i64 kd] rfl rfl (by first | exact heap_new_at (by simp) | exact hpre _ _ (by first | exact heap_new_at (by simp) | exact heap_up (heap_new_at (by simp)) _) (fun e => by have := (HU.out.lt _ e).2; omega)) (by simp [Value.oneCell']) HMc.out HBc.out (Nat.le_trans HBZ.out hk1.size) ?_; intro gg2 cap2 w3 hown2 hk2 hpre2 hat2; have hkB : Keeps (fun i => (Value.slice U up.length uc).ownBlock = some i ∨ cv.ownBlock = some i) W w3 := hkA.trans hk2 (fun i _ h => .inr h); have q3 := hkB.cell c3 hnUC; have q4 := hkB.cell c4 hnUC; have qf3 := hkB.frozen f3 hpl hnUC; have qf4 := hkB.frozen f4 hpl hnUC; have qz := Nat.lt_of_lt_of_le hpl hkB.size)
          refine hK.out _ _ (fun _ => ?_) (fun hE => ?_)
          · exact hQ.out _ (by repeat (first | (with_reducible assumption) | (with_reducible exact Keeps.refl _ _) | (with_reducible refine Keeps.drewN ?_ _) | (with_reducible refine Keeps.drew ?_) | with_reducible refine Keeps.setCell ?_ (by first | (intro _; exact rfl) | (intro _; exact Or.inl rfl) | (intro _; exact Or.inr rfl) | (simp; done) | (simp; omega)) _ | (with_reducible refine Keeps.alloc ?_ _)))
          have hS := hE (by kernel_rfl)
          clear hK K hE
          try simp only [Act.put, List.setIfInBounds_toArray, List.set_cons_zero, List.set_cons_succ]
          refine wpAnyT_pure (i := 20) (oi := { dst := some 25, op := Op.nilCheck (Operand.tmp 5), type := 0, pos := "kinds.go:61", after := #[{ on := 0, ground := Ground.data }, { on := 0, ground := Ground.phase }, { on := 1, ground := Ground.textOnly Departure.lateStores }, { on := 2, ground := Ground.phase }, { on := 3, ground := Ground.phase }, { on := 4, ground := Ground.phase }, { on := 5, ground := Ground.phase }, { on := 6, ground := Ground.phase }, { on := 7, ground := Ground.phase }, { on := 8, ground := Ground.phase }, { on := 9, ground := Ground.phase }, { on := 10, ground := Ground.phase }, { on := 11, ground := Ground.phase }, { on := 12, ground := Ground.phase }, { on := 13, ground := Ground.textOnly Departure.lateStores }, { on := 14, ground := Ground.textOnly Departure.lateStoresUnsure }, { on := 15, ground := Ground.textOnly Departure.lateStoresUnsure }, { on := 16, ground := Ground.phase }, { on := 17, ground := Ground.textOnly Departure.lateStores }, { on := 18, ground := Ground.textOnly Departure.lateStoresUnsure }, { on := 19, ground := Ground.phase }], guard := none }) (v := ?v20) rfl (by kernel_rfl) (fun _ _ _ h => h) (Or.inl ⟨by rfl, ?y20⟩) (fun _ => hS) ?_
          case y20 => (intro w hSw; go_simp; try with_reducible rfl)
          try simp only [Act.put, List.setIfInBounds_toArray, List.set_cons_zero, List.set_cons_succ]
          refine wpAnyT_pure (i := 21) (oi := { dst := some 26, op := Op.fieldAddr 76 (Operand.tmp 25) 3, type := 0, pos := "kinds.go:61", after := #[{ on := 20, ground := Ground.data }, { on := 0, ground := Ground.phase }, { on := 1, ground := Ground.textOnly Departure.lateStores }, { on := 2, ground := Ground.phase }, { on := 3, ground := Ground.phase }, { on := 4, ground := Ground.phase }, { on := 5, ground := Ground.phase }, { on := 6, ground := Ground.phase }, { on := 7, ground := Ground.phase }, { on := 8, ground := Ground.phase }, { on := 9, ground := Ground.phase }, { on := 10, ground := Ground.phase }, { on := 11, ground := Ground.phase }, { on := 12, ground := Ground.phase }, { on := 13, ground := Ground.textOnly Departure.lateStores }, { on := 14, ground := Ground.textOnly Departure.lateStoresUnsure }, { on := 15, ground := Ground.textOnly Departure.lateStoresUnsure }, { on := 16, ground := Ground.phase }, { on := 17, ground := Ground.textOnly Departure.lateStores }, { on := 18, ground := Ground.textOnly Departure.lateStoresUnsure }, { on := 19, ground := Ground.phase }], guard := none }) (v := ?v21) rfl (by kernel_rfl) (fun _ _ _ h => h) (Or.inl ⟨by rfl, ?y21⟩) (fun _ => hS) ?_
          case y21 => (intro w hSw; go_simp; try with_reducible rfl)
          try simp only [Act.put, List.setIfInBounds_toArray, List.set_cons_zero, List.set_cons_succ]
          refine wpAnyT_ready (rs := [22]) (by kernel_rfl) rfl ?_
          refine AllT.cons (o := { dst := none, op := Op.store 27 (Operand.tmp 26) (Operand.tmp 17), type := 0, pos := "kinds.go:61", after := #[{ on := 21, ground := Ground.data }, { on := 12, ground := Ground.data }, { on := 19, ground := Ground.chain }, { on := 0, ground := Ground.phase }, { on := 1, ground := Ground.textOnly Departure.lateStores }, { on := 2, ground := Ground.phase }, { on := 3, ground := Ground.phase }, { on := 4, ground := Ground.phase }, { on := 5, ground := Ground.phase }, { on := 6, ground := Ground.phase }, { on := 7, ground := Ground.phase }, { on := 8, ground := Ground.phase }, { on := 9, ground := Ground.phase }, { on := 10, ground := Ground.phase }, { on := 11, ground := Ground.phase }, { on := 12, ground := Ground.phase }, { on := 13, ground := Ground.textOnly Departure.lateStores }, { on := 14, ground := Ground.textOnly Departure.lateStoresUnsure }, { on := 15, ground := Ground.textOnly Departure.lateStoresUnsure }, { on := 16, ground := Ground.phase }, { on := 17, ground := Ground.textOnly Departure.lateStores }, { on := 18, ground := Ground.textOnly Departure.lateStoresUnsure }, { on := 19, ground := Ground.phase }], guard := none }) rfl (fun K hK => ?_) ?_
          · go_simp
            refine hK.out _ _ (fun he => Bool.noConfusion (show false = true from he)) (fun hE => ?_)
            clear hK K hE
            try simp only [Act.put, List.setIfInBounds_toArray, List.set_cons_zero, List.set_cons_succ]
            refine wpAnyT_pure (i := 23) (oi := { dst := some 27, op := Op.nilCheck (Operand.tmp 6), type := 0, pos := "kinds.go:61", after := #[{ on := 1, ground := Ground.data }, { on := 0, ground := Ground.phase }, { on := 1, ground := Ground.phase }, { on := 2, ground := Ground.phase }, { on := 3, ground := Ground.phase }, { on := 4, ground := Ground.phase }, { on := 5, ground := Ground.phase }, { on := 6, ground := Ground.phase }, { on := 7, ground := Ground.phase }, { on := 8, ground := Ground.phase }, { on := 9, ground := Ground.phase }, { on := 10, ground := Ground.phase }, { on := 11, ground := Ground.phase }, { on := 12, ground := Ground.phase }, { on := 13, ground := Ground.phase }, { on := 14, ground := Ground.phase }, { on := 15, ground := Ground.phase }, { on := 16, ground := Ground.phase }, { on := 17, ground := Ground.phase }, { on := 18, ground := Ground.phase }, { on := 19, ground := Ground.phase }, { on := 20, ground := Ground.phase }, { on := 21, ground := Ground.phase }, { on := 22, ground := Ground.phase }], guard := none }) (v := ?v23) rfl (by kernel_rfl) (fun _ _ _ h => h) (Or.inl ⟨by rfl, ?y23⟩) (fun he => Bool.noConfusion (show false = true from he)) ?_
            case y23 => (intro w hSw; go_simp; try with_reducible rfl)
            try simp only [Act.put, List.setIfInBounds_toArray, List.set_cons_zero, List.set_cons_succ]
            refine wpAnyT_pure (i := 24) (oi := { dst := some 28, op := Op.fieldAddr 76 (Operand.tmp 27) 4, type := 0, pos := "kinds.go:61", after := #[{ on := 23, ground := Ground.data }, { on := 0, ground := Ground.phase }, { on := 1, ground := Ground.phase }, { on := 2, ground := Ground.phase }, { on := 3, ground := Ground.phase }, { on := 4, ground := Ground.phase }, { on := 5, ground := Ground.phase }, { on := 6, ground := Ground.phase }, { on := 7, ground := Ground.phase }, { on := 8, ground := Ground.phase }, { on := 9, ground := Ground.phase }, { on := 10, ground := Ground.phase }, { on := 11, ground := Ground.phase }, { on := 12, ground := Ground.phase }, { on := 13, ground := Ground.phase }, { on := 14, ground := Ground.phase }, { on := 15, ground := Ground.phase }, { on := 16, ground := Ground.phase }, { on := 17, ground := Ground.phase }, { on := 18, ground := Ground.phase }, { on := 19, ground := Ground.phase }, { on := 20, ground := Ground.phase }, { on := 21, ground := Ground.phase }, { on := 22, ground := Ground.phase }], guard := none }) (v := ?v24) rfl (by kernel_rfl) (fun _ _ _ h => h) (Or.inl ⟨by rfl, ?y24⟩) (fun he => Bool.noConfusion (show false = true from he)) ?_
            case y24 => (intro w hSw; go_simp; try with_reducible rfl)
            try simp only [Act.put, List.setIfInBounds_toArray, List.set_cons_zero, List.set_cons_succ]
            refine wpAnyT_ready (rs := [25]) (by kernel_rfl) rfl ?_
            refine AllT.cons (o := { dst := none, op := Op.store 27 (Operand.tmp 28) (Operand.tmp 24), type := 0, pos := "kinds.go:61", after := #[{ on := 24, ground := Ground.data }, { on := 19, ground := Ground.data }, { on := 22, ground := Ground.chain }, { on := 0, ground := Ground.phase }, { on := 1, ground := Ground.phase }, { on := 2, ground := Ground.phase }, { on := 3, ground := Ground.phase }, { on := 4, ground := Ground.phase }, { on := 5, ground := Ground.phase }, { on := 6, ground := Ground.phase }, { on := 7, ground := Ground.phase }, { on := 8, ground := Ground.phase }, { on := 9, ground := Ground.phase }, { on := 10, ground := Ground.phase }, { on := 11, ground := Ground.phase }, { on := 12, ground := Ground.phase }, { on := 13, ground := Ground.phase }, { on := 14, ground := Ground.phase }, { on := 15, ground := Ground.phase }, { on := 16, ground := Ground.phase }, { on := 17, ground := Ground.phase }, { on := 18, ground := Ground.phase }, { on := 19, ground := Ground.phase }, { on := 20, ground := Ground.phase }, { on := 21, ground := Ground.phase }, { on := 22, ground := Ground.phase }], guard := none }) rfl (fun K hK => ?_) ?_
            · go_simp
              refine hK.out _ _ (fun he => Bool.noConfusion (show false = true from he)) (fun hE => ?_)
              clear hK K hE
              try simp only [Act.put, List.setIfInBounds_toArray, List.set_cons_zero, List.set_cons_succ]
              refine wpAnyT_done (by kernel_rfl) ?_ _
              refine NoPanic.normal ?_
              obtain ⟨hSv, hBel⟩ := HS.out.pushed HBZ.out kd (by rw [HUX.out]; exact hown1) hk1 hat1 (by rw [HCX.out]; exact hown2) hk2 hat2
              have z3 := hSv.blk.cell (i := 3) rfl
              have HSv := Lib.hid hSv
              have HBel := Lib.hid hBel
              clear hSv hBel hown1 hown2 hk1 hk2 hat1 hat2 hpre hpre2 hkA hkB q3 q4 qf3 qf4 qz
              go_wp2_with fail
              go_ret
              exact ⟨by first | rfl | (simp; omega), HBel.out, _, _, HSv.out⟩
            exact AllT.nil
          exact AllT.nil
        exact AllT.nil
      exact AllT.nil
    exact AllT.nil
  exact AllT.nil
end
end Go.Proofs.YtjofndhbpglfgaaDoor
