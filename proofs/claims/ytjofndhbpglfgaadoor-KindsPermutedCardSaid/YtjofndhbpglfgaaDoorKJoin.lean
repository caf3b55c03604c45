/- kinds: the solver's join. -/
import Derived.Test.YtjofndhbpglfgaaDoorKSlot
import Derived.Deep.QuietTactic
import Derived.BigQuiet
namespace Go.Proofs.YtjofndhbpglfgaaDoor
open Go.RowKit Go.Shelf

section
variable {W W' : World} {B p : Nat} {known : List KindSig} {datas : List DataSig} {first up : List Nat} {kind : List Int} {kv dv fv : Value}
theorem kintz_set' (l : List Int) (i : Nat) (x : Int) : (kintz l).set i (.int .i64 x) = kintz (l.set i x) := by simp [kintz, List.map_set]
theorem ints_set' (l : List Nat) (i j : Nat) : (ints l).set i (.int .i64 (j : Int)) = ints (l.set i j) := by simp [ints, List.map_set]
/-- The blocks of two rows. -/
def Two (a b : Value) (i : Nat) : Prop := a.ownBlock = some i ∨ b.ownBlock = some i
/-- What two stores do. -/
theorem Sv.joined {gu uc gc cc ri rk : Nat} (h : Sv W B p known datas first up kind kv dv fv (.slice (some ⟨gu, 0, none⟩) up.length uc) (.slice (some ⟨gc, 0, none⟩) up.length cc)) (_ : ri < up.length) (_ : rk < up.length) (hl : kind.length = up.length) (_ _ m : Int) :
    Sv ((W.setCell ⟨gu, ri, none⟩ (.int .i64 (rk : Int))).setCell ⟨gc, rk, none⟩ (.int .i64 m)) B p known datas first (up.set ri rk) (kind.set rk m) kv dv fv (.slice (some ⟨gu, 0, none⟩) up.length uc) (.slice (some ⟨gc, 0, none⟩) up.length cc) ∧ Keeps (Two (.slice (some ⟨gu, 0, none⟩) up.length uc) (.slice (some ⟨gc, 0, none⟩) up.length cc)) W ((W.setCell ⟨gu, ri, none⟩ (.int .i64 (rk : Int))).setCell ⟨gc, rk, none⟩ (.int .i64 m)) := by
  have hUlt := h.uo.lt gu rfl
  have hClt := h.co.lt gc rfl
  have hnU := own_not h.uo h.blk (by decide)
  have hnC := own_not h.co h.blk (by decide)
  have hpu : p ≠ gu := fun e => hnU (by rw [e]; rfl)
  have hpc : p ≠ gc := fun e => hnC (by rw [e]; rfl)
  have huc : gu ≠ gc := fun e => h.uc gu rfl (by rw [e]; rfl)
  have k1 : Keeps (· = gu) W (W.setCell ⟨gu, ri, none⟩ (.int .i64 (rk : Int))) := (Keeps.refl (· = gu) W).setCell (p := ⟨gu, ri, none⟩) (fun _ => rfl) _
  have k2 : Keeps (· = gc) (W.setCell ⟨gu, ri, none⟩ (.int .i64 (rk : Int))) ((W.setCell ⟨gu, ri, none⟩ (.int .i64 (rk : Int))).setCell ⟨gc, rk, none⟩ (.int .i64 m)) := (Keeps.refl (· = gc) _).setCell (p := ⟨gc, rk, none⟩) (fun _ => rfl) _
  have ho : ∀ (g : Nat) (n c i : Nat), (Value.slice (some ⟨g, 0, none⟩) n c).ownBlock = some i → g = i := fun g n c i hi => by simpa [Value.ownBlock] using hi
  have u1 := (h.uo.stored ri (.int .i64 (rk : Int))).1
  rw [ints_set'] at u1
  have u2 := own_keeps u1 k2 (fun i hi e => huc ((ho _ _ _ _ hi).trans e))
  have hco : W.ownsRow B 3 1 (.slice (some ⟨gc, 0, none⟩) up.length cc) up.length (kintz kind) := by have := h.co; rwa [hl] at this
  have c1 := own_keeps hco k1 (fun i hi e => huc (((ho _ _ _ _ hi).trans e).symm))
  have c2 := (c1.stored rk (.int .i64 m)).1
  rw [kintz_set'] at c2
  have hfu : ∀ i, fv.ownBlock = some i → i ≠ gu := fun i hi e => h.fu i hi (by rw [e]; rfl)
  have hfc : ∀ i, fv.ownBlock = some i → i ≠ gc := fun i hi e => h.fc i hi (by rw [e]; rfl)
  refine ⟨⟨(h.blk.keeps k1 hpu).keeps k2 hpc, own_keeps (own_keeps h.fo k1 hfu) k2 hfc, by rw [List.length_set]; exact u2, by rw [List.length_set, hl]; exact c2, h.fu, h.fc, h.uc, ?_, ?_, h.low⟩, ?_⟩
  · exact (h.kn.keeps k1 (fun i hi e => by have := hUlt.1; omega)).keeps k2 (fun i hi e => by have := hClt.1; omega)
  · exact (h.dt.keeps k1 (fun i hi e => by have := hUlt.1; omega)).keeps k2 (fun i hi e => by have := hClt.1; omega)
  · exact (k1.mono (fun i _ hi => .inl (by rw [hi]; rfl))).trans (k2.mono (fun i _ hi => .inr (by rw [hi]; rfl))) (fun _ _ h => h)

/-! ### join, in plain words -/
def kOf (kind : List Int) (i : Nat) : Int := kind.getD i (-1)
def clash (a b : Int) : Bool := a != -1 && b != -1 && a != b
noncomputable def joinE (up : List Nat) (kind : List Int) (i k : Nat) : Int := if rt up i = rt up k then 0 else if clash (kOf kind (rt up i)) (kOf kind (rt up k)) = true then 9 else 0
noncomputable def joinU (up : List Nat) (kind : List Int) (i k : Nat) : List Nat := if rt up i = rt up k ∨ clash (kOf kind (rt up i)) (kOf kind (rt up k)) = true then up else up.set (rt up i) (rt up k)
noncomputable def joinK (up : List Nat) (kind : List Int) (i k : Nat) : List Int := if rt up i = rt up k ∨ clash (kOf kind (rt up i)) (kOf kind (rt up k)) = true then kind else kind.set (rt up k) (max (kOf kind (rt up i)) (kOf kind (rt up k)))

set_option maxRecDepth 100000 in
set_option maxHeartbeats 16000000 in
theorem join_any {uv cv : Value} (hS : Sv W B p known datas first up kind kv dv fv uv cv) (hU : Uf up) (hl : kind.length = up.length) (i k : Nat) (hi : i < up.length) (hk : k < up.length) :
    Calls Tryd.prog 70 #[.pointer (some ⟨p, 0, none⟩), .int .i64 (i : Int), .int .i64 (k : Int)] W fun e w' => e = .returned (.int .i64 (joinE up kind i k)) ∧ Keeps (Two uv cv) W w' ∧ Sv w' B p known datas first (joinU up kind i k) (joinK up kind i k) kv dv fv uv cv := by
  obtain ⟨n1, hn1⟩ := hU.rt hi
  obtain ⟨n2, hn2⟩ := hU.rt hk
  have hri := hU.rt_lt hi
  have hrk := hU.rt_lt hk
  have HR1 := Lib.hid (root_any hS n1 i _ hn1)
  have HR2 := Lib.hid (root_any hS n2 k _ hn2)
  obtain ⟨ri, hrie⟩ : ∃ r, rt up i = r := ⟨_, rfl⟩
  obtain ⟨rk, hrke⟩ : ∃ r, rt up k = r := ⟨_, rfl⟩
  have hu0 : up[ri]? = some up[ri]! := by
    rw [hrie] at hri
    simp [hri]
  have hca : kind[ri]? = some (kOf kind ri) := by
    rw [hrie] at hri
    unfold kOf
    rw [List.getD_eq_getElem?_getD, List.getElem?_eq_getElem (by omega)]; rfl
  have hcb : kind[rk]? = some (kOf kind rk) := by
    rw [hrke] at hrk
    unfold kOf
    rw [List.getD_eq_getElem?_getD, List.getElem?_eq_getElem (by omega)]; rfl
  obtain ⟨gu, uc, rfl, cu, hgul, hgu1, fu⟩ := own_cell hS.uo (ints_get hu0) (by simp)
  obtain ⟨gc, cc, hcv, ca, hgcl, hgc1, fa⟩ := own_cell hS.co (kintz_get hca) (by simp)
  subst hcv
  obtain ⟨gc', cc', hcv, cb, _, _, fb⟩ := own_cell hS.co (kintz_get hcb) (by simp)
  simp only [Value.slice.injEq, Option.some.injEq, Addr.mk.injEq, and_true, true_and] at hcv
  obtain ⟨rfl, rfl⟩ := hcv
  obtain ⟨a, ha⟩ : ∃ a, kOf kind ri = a := ⟨_, rfl⟩
  obtain ⟨b, hb⟩ : ∃ b, kOf kind rk = b := ⟨_, rfl⟩
  rw [ha] at ca
  rw [hb] at cb
  rw [hl] at hS ⊢
  have c3 := hS.blk.cell (i := 3) rfl
  have c4 := hS.blk.cell (i := 4) rfl
  have hje : joinE up kind i k = if ri = rk then 0 else if clash a b = true then 9 else 0 := by unfold joinE; rw [hrie, hrke, ha, hb]
  have hju : joinU up kind i k = if ri = rk ∨ clash a b = true then up else up.set ri rk := by unfold joinU; rw [hrie, hrke, ha, hb]
  have hjk : joinK up kind i k = if ri = rk ∨ clash a b = true then kind else kind.set rk (max a b) := by unfold joinK; rw [hrie, hrke, ha, hb]
  have HJE := Lib.hid hje
  have HJU := Lib.hid hju
  have HJK := Lib.hid hjk
  rw [hrie] at hri HR1
  rw [hrke] at hrk HR2
  have HS := Lib.hid hS
  have HLk := Lib.hid hl
  have hpl := hS.blk.lt
  have r0 : (0 : Int) ≤ (ri : Int) := by omega
  have r1 : (ri : Int) < (up.length : Int) := by omega
  have r2 : (0 : Int) ≤ (rk : Int) := by omega
  have r3 : (rk : Int) < (up.length : Int) := by omega
  clear hje hju hjk hS hU hn1 hn2 hu0 hca hcb ha hb hrie hrke hl
  by_cases hrr : ri = rk
  · have hE : Hid (joinE up kind i k = 0) := by show _ = _; rw [HJE.out, if_pos hrr]
    have hJ : Hid (joinU up kind i k = up ∧ joinK up kind i k = kind) := ⟨by rw [HJU.out, if_pos (.inl hrr)], by rw [HJK.out, if_pos (.inl hrr)]⟩
    have hb1 : ((ri : Int) == (rk : Int)) = true := by rw [hrr]; simp
    clear hrr
    go_enter Tryd.func70, Tryd.ntmps70
    go_wp2_with fail
    with_reducible refine HR1.out.mono ?_
    rintro e w' ⟨rfl, rfl⟩
    go_wp2_with fail
    with_reducible refine HR2.out.mono ?_
    rintro e w' ⟨rfl, rfl⟩
    go_wp2_with fail
    go_ret
    exact ⟨by rw [hE.out]; rfl, Keeps.refl _ _, by rw [hJ.out.1, hJ.out.2]; exact HS.out⟩
  · have hb1 : ((ri : Int) == (rk : Int)) = false := by rw [beq_eq_false_iff_ne]; omega
    cases hcl : clash a b with
    | true =>
      have hE : Hid (joinE up kind i k = 9) := by show _ = _; rw [HJE.out, if_neg hrr, if_pos hcl]
      have hJ : Hid (joinU up kind i k = up ∧ joinK up kind i k = kind) := ⟨by rw [HJU.out, if_pos (.inr hcl)], by rw [HJK.out, if_pos (.inr hcl)]⟩
      unfold clash at hcl
      simp only [Bool.and_eq_true] at hcl
      have h1 := hcl.1.1
      have h2 := hcl.1.2
      have h3 := hcl.2
      clear hcl hrr
      go_enter Tryd.func70, Tryd.ntmps70
      go_wp2_with fail
      with_reducible refine HR1.out.mono ?_
      rintro e w' ⟨rfl, rfl⟩
      go_wp2_with fail
      with_reducible refine HR2.out.mono ?_
      rintro e w' ⟨rfl, rfl⟩
      go_wp2_with fail
      go_quiet (fail)
      go_wp2_with fail
      go_ret
      exact ⟨by rw [hE.out]; rfl, (Keeps.refl _ _).drewN _, by rw [hJ.out.1, hJ.out.2]; exact HS.out.same ((Keeps.refl _ _).drewN _)⟩
    | false =>
      have HE : Hid (joinE up kind i k = 0) := by show _ = _; rw [HJE.out, if_neg hrr, if_neg (by rw [hcl]; decide)]
      have HJ : Hid (joinU up kind i k = up.set ri rk ∧ joinK up kind i k = kind.set rk (max a b)) := ⟨by rw [HJU.out, if_neg (by rw [hcl]; simpa using hrr)], by rw [HJK.out, if_neg (by rw [hcl]; simpa using hrr)]⟩
      have hsp : (a != -1) = false ∨ ((a != -1) = true ∧ (b != -1) = false) ∨ ((a != -1) = true ∧ (b != -1) = true ∧ (a != b) = false) := by
        unfold clash at hcl
        cases h1 : (a != -1) with
        | false => exact .inl rfl
        | true =>
          cases h2 : (b != -1) with
          | false => exact .inr (.inl ⟨rfl, rfl⟩)
          | true =>
            rw [h1, h2] at hcl
            exact .inr (.inr ⟨rfl, rfl, by simpa using hcl⟩)
      clear hcl hrr
      go_enter Tryd.func70, Tryd.ntmps70
      go_wp2_with fail
      with_reducible refine HR1.out.mono ?_
      rintro e w' ⟨rfl, rfl⟩
      go_wp2_with fail
      with_reducible refine HR2.out.mono ?_
      rintro e w' ⟨rfl, rfl⟩
      go_wp2_with fail
      rcases hsp with h1 | ⟨h1, h2⟩ | ⟨h1, h2, h3⟩
      all_goals
        go_quiet (fail)
        go_wp2_with fail
        obtain ⟨W2, hW2⟩ : ∃ W2, W.drewN nq = W2 := ⟨_, rfl⟩
        have hS2 : Sv W2 B p known datas first up kind kv dv fv (.slice (some ⟨gu, 0, none⟩) up.length uc) (.slice (some ⟨gc, 0, none⟩) up.length cc) := by rw [← hW2]; exact HS.out.same ((Keeps.refl _ _).drewN _)
        have hk2 : Keeps (fun _ => False) W W2 := by rw [← hW2]; exact (Keeps.refl _ _).drewN _
        have d3 := hk2.cell c3 (fun h => h)
        have d4 := hk2.cell c4 (fun h => h)
        have da := hk2.cell ca (fun h => h)
        have db := hk2.cell cb (fun h => h)
        have du := hk2.cell cu (fun h => h)
        have ea := hk2.frozen fa hgcl (fun h => h)
        have eb := hk2.frozen fb hgcl (fun h => h)
        have eu := hk2.frozen fu hgul (fun h => h)
        have hpl2 : p < W2.heap.size := Nat.lt_of_lt_of_le hpl hk2.size
        have hgu2 : gu < W2.heap.size := Nat.lt_of_lt_of_le hgul hk2.size
        have hgc2 : gc < W2.heap.size := Nat.lt_of_lt_of_le hgcl hk2.size
        have hguc : gu ≠ gc := fun e => hS2.uc gu rfl (by rw [e]; rfl)
        have HS2 := Lib.hid hS2
        have HK2 := Lib.hid hk2
        rw [hW2]
        clear hS2 hk2 hW2 c3 c4 ca cb cu fa fb fu
        refine wp_region_noPanic ?_
        refine wp_region_till [27, 29] (fun X => X.cell? ⟨p, 3, none⟩ = some (.slice (some ⟨gu, 0, none⟩) up.length uc) ∧ X.cell? ⟨p, 4, none⟩ = some (.slice (some ⟨gc, 0, none⟩) up.length cc) ∧ X.cell? ⟨gc, ri, none⟩ = some (.int .i64 a) ∧ X.cell? ⟨gc, rk, none⟩ = some (.int .i64 b)) (by kernel_rfl) ?_ (fun hE => ?_)
        · exact ⟨d3, d4, da, db⟩
        have hS := hE (by kernel_rfl)
        refine wpAnyT_pure (i := 0) (oi := { dst := some 53, op := Op.move (Operand.tmp 0), type := 73, pos := "kinds.go:74", after := #[], guard := none }) (v := ?v0) rfl (by kernel_rfl) (fun _ _ _ h => h) (Or.inl ⟨by rfl, ?y0⟩) (fun _ => hS) ?_
        case y0 => (intro w hSw; go_simp; try with_reducible rfl)
        try simp only [Act.put, List.setIfInBounds_toArray, List.set_cons_zero, List.set_cons_succ]
        refine wpAnyT_pure (i := 1) (oi := { dst := some 54, op := Op.nilCheck (Operand.tmp 53), type := 0, pos := "kinds.go:74", after := #[{ on := 0, ground := Ground.data }], guard := none }) (v := ?v1) rfl (by kernel_rfl) (fun _ _ _ h => h) (Or.inl ⟨by rfl, ?y1⟩) (fun _ => hS) ?_
        case y1 => (intro w hSw; go_simp; try with_reducible rfl)
        try simp only [Act.put, List.setIfInBounds_toArray, List.set_cons_zero, List.set_cons_succ]
        refine wpAnyT_pure (i := 2) (oi := { dst := some 55, op := Op.fieldAddr 76 (Operand.tmp 54) 3, type := 0, pos := "kinds.go:74", after := #[{ on := 1, ground := Ground.data }], guard := none }) (v := ?v2) rfl (by kernel_rfl) (fun _ _ _ h => h) (Or.inl ⟨by rfl, ?y2⟩) (fun _ => hS) ?_
        case y2 => (intro w hSw; go_simp; try with_reducible rfl)
        try simp only [Act.put, List.setIfInBounds_toArray, List.set_cons_zero, List.set_cons_succ]
        refine wpAnyT_take (i := 3) (oi := { dst := some 56, op := Op.load 27 (Operand.tmp 55), type := 27, pos := "kinds.go:74", after := #[{ on := 2, ground := Ground.data }], guard := none }) (v := ?v3) rfl (by kernel_rfl) (fun _ _ _ h => h) (Or.inl ⟨by rfl, ?y3⟩) hS ?_
        case y3 => (intro w hSw; (try dsimp only at hSw); go_simp; try with_reducible rfl)
        try simp only [Act.put, List.setIfInBounds_toArray, List.set_cons_zero, List.set_cons_succ]
        refine wpAnyT_pure (i := 4) (oi := { dst := some 57, op := Op.move (Operand.tmp 1), type := 3, pos := "kinds.go:74", after := #[], guard := none }) (v := ?v4) rfl (by kernel_rfl) (fun _ _ _ h => h) (Or.inl ⟨by rfl, ?y4⟩) (fun _ => hS) ?_
        case y4 => (intro w hSw; go_simp; try with_reducible rfl)
        try simp only [Act.put, List.setIfInBounds_toArray, List.set_cons_zero, List.set_cons_succ]
        refine wpAnyT_pure (i := 5) (oi := { dst := some 58, op := Op.move (Operand.tmp 0), type := 73, pos := "kinds.go:74", after := #[], guard := none }) (v := ?v5) rfl (by kernel_rfl) (fun _ _ _ h => h) (Or.inl ⟨by rfl, ?y5⟩) (fun _ => hS) ?_
        case y5 => (intro w hSw; go_simp; try with_reducible rfl)
        try simp only [Act.put, List.setIfInBounds_toArray, List.set_cons_zero, List.set_cons_succ]
        refine wpAnyT_pure (i := 6) (oi := { dst := some 59, op := Op.nilCheck (Operand.tmp 58), type := 0, pos := "kinds.go:74", after := #[{ on := 5, ground := Ground.data }], guard := none }) (v := ?v6) rfl (by kernel_rfl) (fun _ _ _ h => h) (Or.inl ⟨by rfl, ?y6⟩) (fun _ => hS) ?_
        case y6 => (intro w hSw; go_simp; try with_reducible rfl)
        try simp only [Act.put, List.setIfInBounds_toArray, List.set_cons_zero, List.set_cons_succ]
        refine wpAnyT_pure (i := 7) (oi := { dst := some 60, op := Op.fieldAddr 76 (Operand.tmp 59) 4, type := 0, pos := "kinds.go:74", after := #[{ on := 6, ground := Ground.data }], guard := none }) (v := ?v7) rfl (by kernel_rfl) (fun _ _ _ h => h) (Or.inl ⟨by rfl, ?y7⟩) (fun _ => hS) ?_
        case y7 => (intro w hSw; go_simp; try with_reducible rfl)
        try simp only [Act.put, List.setIfInBounds_toArray, List.set_cons_zero, List.set_cons_succ]
        refine wpAnyT_take (i := 8) (oi := { dst := some 61, op := Op.load 27 (Operand.tmp 60), type := 27, pos := "kinds.go:74", after := #[{ on := 7, ground := Ground.data }], guard := none }) (v := ?v8) rfl (by kernel_rfl) (fun _ _ _ h => h) (Or.inl ⟨by rfl, ?y8⟩) hS ?_
        case y8 => (intro w hSw; (try dsimp only at hSw); go_simp; try with_reducible rfl)
        try simp only [Act.put, List.setIfInBounds_toArray, List.set_cons_zero, List.set_cons_succ]
        refine wpAnyT_pure (i := 9) (oi := { dst := some 62, op := Op.move (Operand.tmp 2), type := 3, pos := "kinds.go:74", after := #[{ on := 27, ground := Ground.gcOnly Departure.lateStores }], guard := none }) (v := ?v9) rfl (by kernel_rfl) (fun _ _ _ h => h) (Or.inl ⟨by rfl, ?y9⟩) (fun _ => hS) ?_
        case y9 => (intro w hSw; go_simp; try with_reducible rfl)
        try simp only [Act.put, List.setIfInBounds_toArray, List.set_cons_zero, List.set_cons_succ]
        refine wpAnyT_pure (i := 10) (oi := { dst := some 63, op := Op.move (Operand.tmp 2), type := 3, pos := "kinds.go:74", after := #[], guard := none }) (v := ?v10) rfl (by kernel_rfl) (fun _ _ _ h => h) (Or.inl ⟨by rfl, ?y10⟩) (fun _ => hS) ?_
        case y10 => (intro w hSw; go_simp; try with_reducible rfl)
        try simp only [Act.put, List.setIfInBounds_toArray, List.set_cons_zero, List.set_cons_succ]
        refine wpAnyT_pure (i := 11) (oi := { dst := some 64, op := Op.move (Operand.tmp 0), type := 73, pos := "kinds.go:74", after := #[], guard := none }) (v := ?v11) rfl (by kernel_rfl) (fun _ _ _ h => h) (Or.inl ⟨by rfl, ?y11⟩) (fun _ => hS) ?_
        case y11 => (intro w hSw; go_simp; try with_reducible rfl)
        try simp only [Act.put, List.setIfInBounds_toArray, List.set_cons_zero, List.set_cons_succ]
        refine wpAnyT_pure (i := 12) (oi := { dst := some 65, op := Op.nilCheck (Operand.tmp 64), type := 0, pos := "kinds.go:74", after := #[{ on := 11, ground := Ground.data }], guard := none }) (v := ?v12) rfl (by kernel_rfl) (fun _ _ _ h => h) (Or.inl ⟨by rfl, ?y12⟩) (fun _ => hS) ?_
        case y12 => (intro w hSw; go_simp; try with_reducible rfl)
        try simp only [Act.put, List.setIfInBounds_toArray, List.set_cons_zero, List.set_cons_succ]
        refine wpAnyT_pure (i := 13) (oi := { dst := some 66, op := Op.fieldAddr 76 (Operand.tmp 65) 4, type := 0, pos := "kinds.go:74", after := #[{ on := 12, ground := Ground.data }], guard := none }) (v := ?v13) rfl (by kernel_rfl) (fun _ _ _ h => h) (Or.inl ⟨by rfl, ?y13⟩) (fun _ => hS) ?_
        case y13 => (intro w hSw; go_simp; try with_reducible rfl)
        try simp only [Act.put, List.setIfInBounds_toArray, List.set_cons_zero, List.set_cons_succ]
        refine wpAnyT_take (i := 14) (oi := { dst := some 67, op := Op.load 27 (Operand.tmp 66), type := 27, pos := "kinds.go:74", after := #[{ on := 13, ground := Ground.data }], guard := none }) (v := ?v14) rfl (by kernel_rfl) (fun _ _ _ h => h) (Or.inl ⟨by rfl, ?y14⟩) hS ?_
        case y14 => (intro w hSw; (try dsimp only at hSw); go_simp; try with_reducible rfl)
        try simp only [Act.put, List.setIfInBounds_toArray, List.set_cons_zero, List.set_cons_succ]
        refine wpAnyT_pure (i := 15) (oi := { dst := some 68, op := Op.move (Operand.tmp 1), type := 3, pos := "kinds.go:74", after := #[], guard := none }) (v := ?v15) rfl (by kernel_rfl) (fun _ _ _ h => h) (Or.inl ⟨by rfl, ?y15⟩) (fun _ => hS) ?_
        case y15 => (intro w hSw; go_simp; try with_reducible rfl)
        try simp only [Act.put, List.setIfInBounds_toArray, List.set_cons_zero, List.set_cons_succ]
        refine wpAnyT_pure (i := 16) (oi := { dst := some 69, op := Op.indexAddr 27 (Operand.tmp 67) (Operand.tmp 68), type := 0, pos := "kinds.go:74", after := #[{ on := 14, ground := Ground.data }, { on := 15, ground := Ground.data }], guard := none }) (v := ?v16) rfl (by kernel_rfl) (fun _ _ _ h => h) (Or.inl ⟨by rfl, ?y16⟩) (fun _ => hS) ?_
        case y16 => (intro w hSw; go_simp; try with_reducible rfl)
        try simp only [Act.put, List.setIfInBounds_toArray, List.set_cons_zero, List.set_cons_succ]
        refine wpAnyT_take (i := 17) (oi := { dst := some 70, op := Op.load 3 (Operand.tmp 69), type := 3, pos := "kinds.go:74", after := #[{ on := 16, ground := Ground.data }], guard := none }) (v := ?v17) rfl (by kernel_rfl) (fun _ _ _ h => h) (Or.inl ⟨by rfl, ?y17⟩) hS ?_
        case y17 => (intro w hSw; (try dsimp only at hSw); go_simp; try with_reducible rfl)
        try simp only [Act.put, List.setIfInBounds_toArray, List.set_cons_zero, List.set_cons_succ]
        refine wpAnyT_pure (i := 18) (oi := { dst := some 71, op := Op.move (Operand.tmp 0), type := 73, pos := "kinds.go:74", after := #[], guard := none }) (v := ?v18) rfl (by kernel_rfl) (fun _ _ _ h => h) (Or.inl ⟨by rfl, ?y18⟩) (fun _ => hS) ?_
        case y18 => (intro w hSw; go_simp; try with_reducible rfl)
        try simp only [Act.put, List.setIfInBounds_toArray, List.set_cons_zero, List.set_cons_succ]
        refine wpAnyT_pure (i := 19) (oi := { dst := some 72, op := Op.nilCheck (Operand.tmp 71), type := 0, pos := "kinds.go:74", after := #[{ on := 18, ground := Ground.data }], guard := none }) (v := ?v19) rfl (by kernel_rfl) (fun _ _ _ h => h) (Or.inl ⟨by rfl, ?y19⟩) (fun _ => hS) ?_
        case y19 => (intro w hSw; go_simp; try with_reducible rfl)
        try simp only [Act.put, List.setIfInBounds_toArray, List.set_cons_zero, List.set_cons_succ]
        refine wpAnyT_pure (i := 20) (oi := { dst := some 73, op := Op.fieldAddr 76 (Operand.tmp 72) 4, type := 0, pos := "kinds.go:74", after := #[{ on := 19, ground := Ground.data }], guard := none }) (v := ?v20) rfl (by kernel_rfl) (fun _ _ _ h => h) (Or.inl ⟨by rfl, ?y20⟩) (fun _ => hS) ?_
        case y20 => (intro w hSw; go_simp; try with_reducible rfl)
        try simp only [Act.put, List.setIfInBounds_toArray, List.set_cons_zero, List.set_cons_succ]
        refine wpAnyT_take (i := 21) (oi := { dst := some 74, op := Op.load 27 (Operand.tmp 73), type := 27, pos := "kinds.go:74", after := #[{ on := 20, ground := Ground.data }], guard := none }) (v := ?v21) rfl (by kernel_rfl) (fun _ _ _ h => h) (Or.inl ⟨by rfl, ?y21⟩) hS ?_
        case y21 => (intro w hSw; (try dsimp only at hSw); go_simp; try with_reducible rfl)
        try simp only [Act.put, List.setIfInBounds_toArray, List.set_cons_zero, List.set_cons_succ]
        refine wpAnyT_pure (i := 22) (oi := { dst := some 75, op := Op.move (Operand.tmp 2), type := 3, pos := "kinds.go:74", after := #[], guard := none }) (v := ?v22) rfl (by kernel_rfl) (fun _ _ _ h => h) (Or.inl ⟨by rfl, ?y22⟩) (fun _ => hS) ?_
        case y22 => (intro w hSw; go_simp; try with_reducible rfl)
        try simp only [Act.put, List.setIfInBounds_toArray, List.set_cons_zero, List.set_cons_succ]
        refine wpAnyT_pure (i := 23) (oi := { dst := some 76, op := Op.indexAddr 27 (Operand.tmp 74) (Operand.tmp 75), type := 0, pos := "kinds.go:74", after := #[{ on := 21, ground := Ground.data }, { on := 22, ground := Ground.data }], guard := none }) (v := ?v23) rfl (by kernel_rfl) (fun _ _ _ h => h) (Or.inl ⟨by rfl, ?y23⟩) (fun _ => hS) ?_
        case y23 => (intro w hSw; go_simp; try with_reducible rfl)
        try simp only [Act.put, List.setIfInBounds_toArray, List.set_cons_zero, List.set_cons_succ]
        refine wpAnyT_take (i := 24) (oi := { dst := some 77, op := Op.load 3 (Operand.tmp 76), type := 3, pos := "kinds.go:74", after := #[{ on := 23, ground := Ground.data }], guard := none }) (v := ?v24) rfl (by kernel_rfl) (fun _ _ _ h => h) (Or.inl ⟨by rfl, ?y24⟩) hS ?_
        case y24 => (intro w hSw; (try dsimp only at hSw); go_simp; try with_reducible rfl)
        try simp only [Act.put, List.setIfInBounds_toArray, List.set_cons_zero, List.set_cons_succ]
        refine wpAnyT_pure (i := 25) (oi := { dst := some 78, op := Op.call { callee := Callee.builtin Builtin.max, args := #[Operand.tmp 70, Operand.tmp 77], argTypes := #[3, 3] }, type := 3, pos := "kinds.go:74", after := #[{ on := 17, ground := Ground.data }, { on := 24, ground := Ground.data }], guard := none }) (v := ?v25) rfl (by kernel_rfl) (fun _ _ _ h => h) (Or.inl ⟨by rfl, ?y25⟩) (fun _ => hS) ?_
        case y25 => (intro w hSw; go_simp; try with_reducible rfl)
        try simp only [Act.put, List.setIfInBounds_toArray, List.set_cons_zero, List.set_cons_succ]
        refine wpAnyT_pure (i := 26) (oi := { dst := some 79, op := Op.indexAddr 27 (Operand.tmp 56) (Operand.tmp 57), type := 0, pos := "kinds.go:74", after := #[{ on := 3, ground := Ground.data }, { on := 4, ground := Ground.data }, { on := 0, ground := Ground.phase }, { on := 1, ground := Ground.phase }, { on := 2, ground := Ground.phase }, { on := 3, ground := Ground.phase }, { on := 4, ground := Ground.phase }, { on := 5, ground := Ground.textOnly Departure.lateStores }, { on := 6, ground := Ground.textOnly Departure.lateStoresUnsure }, { on := 7, ground := Ground.textOnly Departure.lateStoresUnsure }, { on := 8, ground := Ground.phase }, { on := 9, ground := Ground.textOnly Departure.lateStores }, { on := 10, ground := Ground.phase }, { on := 11, ground := Ground.textOnly Departure.lateStores }, { on := 12, ground := Ground.textOnly Departure.lateStoresUnsure }, { on := 13, ground := Ground.textOnly Departure.lateStoresUnsure }, { on := 14, ground := Ground.phase }, { on := 15, ground := Ground.textOnly Departure.lateStores }, { on := 16, ground := Ground.textOnly Departure.lateStoresUnsure }, { on := 17, ground := Ground.phase }, { on := 18, ground := Ground.textOnly Departure.lateStores }, { on := 19, ground := Ground.textOnly Departure.lateStoresUnsure }, { on := 20, ground := Ground.textOnly Departure.lateStoresUnsure }, { on := 21, ground := Ground.phase }, { on := 22, ground := Ground.textOnly Departure.lateStores }, { on := 23, ground := Ground.textOnly Departure.lateStoresUnsure }, { on := 24, ground := Ground.phase }, { on := 25, ground := Ground.textOnly Departure.lateStoresUnsure }], guard := none }) (v := ?v26) rfl (by kernel_rfl) (fun _ _ _ h => h) (Or.inl ⟨by rfl, ?y26⟩) (fun _ => hS) ?_
        case y26 => (intro w hSw; go_simp; try with_reducible rfl)
        try simp only [Act.put, List.setIfInBounds_toArray, List.set_cons_zero, List.set_cons_succ]
        refine wpAnyT_ready (rs := [27]) (by kernel_rfl) rfl ?_
        refine AllT.cons (o := { dst := none, op := Op.store 3 (Operand.tmp 79) (Operand.tmp 63), type := 0, pos := "kinds.go:74", after := #[{ on := 26, ground := Ground.data }, { on := 10, ground := Ground.data }, { on := 0, ground := Ground.phase }, { on := 1, ground := Ground.phase }, { on := 2, ground := Ground.phase }, { on := 3, ground := Ground.phase }, { on := 4, ground := Ground.phase }, { on := 5, ground := Ground.textOnly Departure.lateStores }, { on := 6, ground := Ground.textOnly Departure.lateStoresUnsure }, { on := 7, ground := Ground.textOnly Departure.lateStoresUnsure }, { on := 8, ground := Ground.phase }, { on := 9, ground := Ground.textOnly Departure.lateStores }, { on := 10, ground := Ground.phase }, { on := 11, ground := Ground.textOnly Departure.lateStores }, { on := 12, ground := Ground.textOnly Departure.lateStoresUnsure }, { on := 13, ground := Ground.textOnly Departure.lateStoresUnsure }, { on := 14, ground := Ground.phase }, { on := 15, ground := Ground.textOnly Departure.lateStores }, { on := 16, ground := Ground.textOnly Departure.lateStoresUnsure }, { on := 17, ground := Ground.phase }, { on := 18, ground := Ground.textOnly Departure.lateStores }, { on := 19, ground := Ground.textOnly Departure.lateStoresUnsure }, { on := 20, ground := Ground.textOnly Departure.lateStoresUnsure }, { on := 21, ground := Ground.phase }, { on := 22, ground := Ground.textOnly Departure.lateStores }, { on := 23, ground := Ground.textOnly Departure.lateStoresUnsure }, { on := 24, ground := Ground.phase }, { on := 25, ground := Ground.textOnly Departure.lateStoresUnsure }], guard := none }) rfl (fun K hK => ?_) ?_
        · go_simp
          refine hK.out _ _ (fun he => Bool.noConfusion (show false = true from he)) (fun hE => ?_)
          clear hK K hE
          try simp only [Act.put, List.setIfInBounds_toArray, List.set_cons_zero, List.set_cons_succ]
          refine wpAnyT_pure (i := 28) (oi := { dst := some 80, op := Op.indexAddr 27 (Operand.tmp 61) (Operand.tmp 62), type := 0, pos := "kinds.go:74", after := #[{ on := 8, ground := Ground.data }, { on := 9, ground := Ground.data }, { on := 0, ground := Ground.phase }, { on := 1, ground := Ground.phase }, { on := 2, ground := Ground.phase }, { on := 3, ground := Ground.phase }, { on := 4, ground := Ground.phase }, { on := 5, ground := Ground.phase }, { on := 6, ground := Ground.phase }, { on := 7, ground := Ground.phase }, { on := 8, ground := Ground.phase }, { on := 9, ground := Ground.phase }, { on := 10, ground := Ground.phase }, { on := 11, ground := Ground.phase }, { on := 12, ground := Ground.phase }, { on := 13, ground := Ground.phase }, { on := 14, ground := Ground.phase }, { on := 15, ground := Ground.phase }, { on := 16, ground := Ground.phase }, { on := 17, ground := Ground.phase }, { on := 18, ground := Ground.phase }, { on := 19, ground := Ground.phase }, { on := 20, ground := Ground.phase }, { on := 21, ground := Ground.phase }, { on := 22, ground := Ground.phase }, { on := 23, ground := Ground.phase }, { on := 24, ground := Ground.phase }, { on := 25, ground := Ground.phase }, { on := 26, ground := Ground.phase }, { on := 27, ground := Ground.phase }], guard := none }) (v := ?v28) rfl (by kernel_rfl) (fun _ _ _ h => h) (Or.inl ⟨by rfl, ?y28⟩) (fun he => Bool.noConfusion (show false = true from he)) ?_
          case y28 => (intro w hSw; go_simp; try with_reducible rfl)
          try simp only [Act.put, List.setIfInBounds_toArray, List.set_cons_zero, List.set_cons_succ]
          refine wpAnyT_ready (rs := [29]) (by kernel_rfl) rfl ?_
          refine AllT.cons (o := { dst := none, op := Op.store 3 (Operand.tmp 80) (Operand.tmp 78), type := 0, pos := "kinds.go:74", after := #[{ on := 28, ground := Ground.data }, { on := 25, ground := Ground.data }, { on := 27, ground := Ground.chain }, { on := 0, ground := Ground.phase }, { on := 1, ground := Ground.phase }, { on := 2, ground := Ground.phase }, { on := 3, ground := Ground.phase }, { on := 4, ground := Ground.phase }, { on := 5, ground := Ground.phase }, { on := 6, ground := Ground.phase }, { on := 7, ground := Ground.phase }, { on := 8, ground := Ground.phase }, { on := 9, ground := Ground.phase }, { on := 10, ground := Ground.phase }, { on := 11, ground := Ground.phase }, { on := 12, ground := Ground.phase }, { on := 13, ground := Ground.phase }, { on := 14, ground := Ground.phase }, { on := 15, ground := Ground.phase }, { on := 16, ground := Ground.phase }, { on := 17, ground := Ground.phase }, { on := 18, ground := Ground.phase }, { on := 19, ground := Ground.phase }, { on := 20, ground := Ground.phase }, { on := 21, ground := Ground.phase }, { on := 22, ground := Ground.phase }, { on := 23, ground := Ground.phase }, { on := 24, ground := Ground.phase }, { on := 25, ground := Ground.phase }, { on := 26, ground := Ground.phase }, { on := 27, ground := Ground.phase }], guard := none }) rfl (fun K hK => ?_) ?_
          · go_simp
            refine hK.out _ _ (fun he => Bool.noConfusion (show false = true from he)) (fun hE => ?_)
            clear hK K hE
            try simp only [Act.put, List.setIfInBounds_toArray, List.set_cons_zero, List.set_cons_succ]
            refine wpAnyT_done (by kernel_rfl) ?_ _
            refine NoPanic.normal ?_
            have HRa := Lib.hid (fun m => HS2.out.joined hri hrk HLk.out a b m)
            go_wp2_with fail
            all_goals
              go_ret
              refine ⟨by rw [HE.out]; rfl, (HK2.out.mono (fun _ _ h => h.elim)).trans (HRa.out _).2.drew (fun _ _ h => h), ?_⟩
              rw [HJ.out.1, HJ.out.2]
              first | (rw [show max a b = b by omega]; exact (HRa.out _).1.same ((Keeps.refl _ _).drew)) | (rw [show max a b = a by omega]; exact (HRa.out _).1.same ((Keeps.refl _ _).drew))
          exact AllT.nil
        exact AllT.nil
theorem Sv.two {uv cv : Value} (h : Sv W B p known datas first up kind kv dv fv uv cv) : ∀ i, Two uv cv i → B ≤ i := fun i hi => hi.elim (fun e => (h.uo.lt i e).1) (fun e => (h.co.lt i e).1)
end
end Go.Proofs.YtjofndhbpglfgaaDoor
