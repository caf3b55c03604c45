/- unify.Unify. -/
import Derived.Test.YthchnabhbpdfgaaDoorUExtend
namespace Go.Proofs.YthchnabhbpdfgaaDoor
open Go.RowKit Go.Shelf

set_option maxHeartbeats 400000 in
theorem uni_clo (b : Nat) (A : Option Addr) (n c : Nat) (v : Int) (W : World) (h : W.cell? ⟨b, 0, none⟩ = some (.slice A n c)) :
    Calls Tryd.prog 17 (#[.int .i64 v] ++ #[.pointer (some ⟨b, 0, none⟩)]) W fun e w' => e = .returned (.bool (decide ((n : Int) ≤ v))) ∧ w' = W := by
  change Calls Tryd.prog 17 #[.int .i64 v, .pointer (some ⟨b, 0, none⟩)] W _
  go_enter Tryd.func17, Tryd.ntmps17
  go_wp2_with fail
  go_ret
  exact ⟨rfl, rfl⟩

/-- One of two types. -/
def two (a b : Ty) (j : Nat) : Ty := if j = 0 then a else b
theorem index0 (W : World) (a0 a1 a2 a3 b0 b1 b2 b3 : Value) : (Instr.index 40 (.agg #[a0, a1, a2, a3, b0, b1, b2, b3]) (.int .i64 0)).run Tryd.prog W = .ok (.agg #[a0, a1, a2, a3]) W := by kernel_rfl
theorem index1 (W : World) (a0 a1 a2 a3 b0 b1 b2 b3 : Value) : (Instr.index 40 (.agg #[a0, a1, a2, a3, b0, b1, b2, b3]) (.int .i64 1)).run Tryd.prog W = .ok (.agg #[b0, b1, b2, b3]) W := by kernel_rfl

set_option maxRecDepth 100000 in
set_option maxHeartbeats 8000000 in
theorem unify_any (k q : Nat) (F : Nat → Prop) (W : World) (sv : Value) (σ : List Ty) (hS : Sl W F tyD σ sv) (hF : ∀ b, F b → b < W.heap.size) (hz : Szs W) (h0 : 0 < σ.length) (a b : Ty) (av bv : Value) (hTa : TyC W F a av) (hTb : TyC W F b bv) (r : Int) (σ' : List Ty)
    (hr : unifyS k q σ a b = some (r, σ')) :
    Calls Tryd.prog 7 #[sv, tyV a av, tyV b bv] W (SubstPost F W r σ') := by
  obtain ⟨A, c, rfl, hlc, hcm, _⟩ := hS.form
  obtain ⟨A1, c1, rfl, hlc1, hcm1, _⟩ := hTa.form
  obtain ⟨A2, c2, rfl, hlc2, hcm2, _⟩ := hTb.form
  obtain ⟨b0, hb0⟩ : ∃ b0, W.heap.size = b0 := ⟨_, rfl⟩
  obtain ⟨W0, hW0⟩ : ∃ W0, ((W.alloc (.cells #[.slice A σ.length c] 25)).alloc (.cells #[.int .i64 a.kind, .string a.name, .int .i64 a.var, .slice A1 a.args.length c1] 24)).alloc (.cells #[.int .i64 b.kind, .string b.name, .int .i64 b.var, .slice A2 b.args.length c2] 24) = W0 := ⟨_, rfl⟩
  have hk0 : Keeps (fun _ => False) W W0 := by rw [← hW0]; exact (((Keeps.refl _ _).alloc _).alloc _).alloc _
  have hSb : Blk W0 b0 25 [.slice A σ.length c] := by
    rw [← hW0, ← hb0]; exact ((Blk.new W _ [_]).alloc _).alloc _
  have hA3 : Blk W0 (b0 + 1) 24 [.int .i64 a.kind, .string a.name, .int .i64 a.var, .slice A1 a.args.length c1] := by
    rw [← hW0]
    have := (Blk.new (W.alloc (.cells #[.slice A σ.length c] 25)) 24 [.int .i64 a.kind, .string a.name, .int .i64 a.var, .slice A1 a.args.length c1]).alloc (.cells #[.int .i64 b.kind, .string b.name, .int .i64 b.var, .slice A2 b.args.length c2] 24)
    simpa [hb0] using this
  have hB3 : Blk W0 (b0 + 2) 24 [.int .i64 b.kind, .string b.name, .int .i64 b.var, .slice A2 b.args.length c2] := by
    have := Blk.new ((W.alloc (.cells #[.slice A σ.length c] 25)).alloc (.cells #[.int .i64 a.kind, .string a.name, .int .i64 a.var, .slice A1 a.args.length c1] 24)) 24 [.int .i64 b.kind, .string b.name, .int .i64 b.var, .slice A2 b.args.length c2]
    rw [hW0] at this
    simpa [hb0] using this
  have hs0 := hk0.size
  have hF0 : ∀ b, F b → b < W0.heap.size := fun b hb => Nat.lt_of_lt_of_le (hF b hb) hs0
  have hzl := block_lt_of_cell hz.c0
  rw [unifyS] at hr
  cases hsc : subC σ k with
  | none => rw [hsc] at hr; cases hr
  | some e0 =>
  rw [hsc] at hr
  dsimp only at hr
  have hn : e0 = 0 → σ.length ≤ 4096 ∧ SubOk σ := fun he => by
    rw [subC] at hsc
    split at hsc
    · rw [he] at hsc; exact absurd (Option.some.inj hsc) (by decide)
    · rename_i hlen
      split at hsc
      · rename_i ht; rw [he] at hsc; exact absurd (Option.some.inj hsc) ht
      · rename_i ht
        exact ⟨by omega, subOk_of (Classical.not_not.1 ht)⟩
  have HCs := Lib.hid (subst_any σ k _ F W0 (hS.keeps hk0 (fun _ _ h => h)) hF0 (hz.keeps hk0 (fun h => h)) e0 hsc)
  have HTa := Lib.hid (hTa.keeps hk0 (fun _ _ h => h))
  have HTb := Lib.hid (hTb.keeps hk0 (fun _ _ h => h))
  have HS := Lib.hid (hS.keeps hk0 (fun _ _ h => h))
  have HZ := Lib.hid (hz.keeps hk0 (fun h => h))
  have HSb := Lib.hid hSb
  have HA3 := Lib.hid hA3
  have HB3 := Lib.hid hB3
  have HW0 := Lib.hid hW0
  have HB0 := Lib.hid hb0
  have HK0 := Lib.hid hk0
  have HF := Lib.hid hF0
  have HFW := Lib.hid hF
  have HR := Lib.hid hr
  have HN := Lib.hid hn
  have H0 := Lib.hid h0
  have HI0 := index0
  have HI1 := index1
  have s0 := hSb.cell (i := 0) rfl
  have hbl := hB3.lt
  unfold tyV
  clear hS hTa hTb hSb hA3 hB3 hW0 hb0 hk0 hF hF0 hr hn h0 hz hsc
  go_enter Tryd.func7, Tryd.ntmps7
  go_wp2_with fail
  rw [HW0.out, HB0.out]
  with_reducible refine HCs.out.mono ?_
  rintro e w1 ⟨rfl, hb1⟩
  have HB1 := Lib.hid hb1
  have a0 := (HA3.out.later hb1).cell (i := 0) rfl
  have a1 := (HA3.out.later hb1).cell (i := 1) rfl
  have a2 := (HA3.out.later hb1).cell (i := 2) rfl
  have a3 := (HA3.out.later hb1).cell (i := 3) rfl
  have q0 := (HB3.out.later hb1).cell (i := 0) rfl
  have q1 := (HB3.out.later hb1).cell (i := 1) rfl
  have q2 := (HB3.out.later hb1).cell (i := 2) rfl
  have q3 := (HB3.out.later hb1).cell (i := 3) rfl
  have s1 := (HSb.out.later hb1).cell (i := 0) rfl
  by_cases he0 : e0 = 0
  · have hr2 := HR.out
    rw [if_neg (fun h => h he0)] at hr2
    have he0b : (e0 != 0) = false := by rw [he0]; rfl
    have HN2 := Lib.hid (HN.out he0)
    have HR2 := Lib.hid hr2
    clear hr2 he0 hb1
    have HE0 : Hid (tyErr σ.length a ≠ 0 → True → tyErr σ.length a = r ∧ σ = σ') := fun h _ => by
      have h2 := HR2.out
      rw [if_pos h] at h2
      simpa using h2
    have HE1 : Hid (tyErr σ.length b ≠ 0 → (∀ m, m < 1 → tyErr σ.length (two a b m) = 0) → tyErr σ.length b = r ∧ σ = σ') := fun h hm => by
      have h2 := HR2.out
      have h3 : tyErr σ.length a = 0 := hm 0 (by decide)
      rw [if_neg (fun h => h h3), if_pos h] at h2
      simpa using h2
    go_wp2_with fail
    go_loopw [10, 11, 20] (fun _ _ i wr => ∃ j : Nat, j ≤ 2 ∧ i = .int .i64 j ∧ Below w1.heap.size w1 wr ∧ Hid (∀ m, m < j → tyErr σ.length (two a b m) = 0)) (fun _ _ i _ => 2 - (intOf i).toNat)
    case atStart => exact ⟨0, by omega, rfl, Below.refl _ _, fun m hm => absurd hm (Nat.not_lt_zero m)⟩
    case round =>
      obtain ⟨j, hj, rfl, hbw, hjj⟩ := hrel
      obtain rfl | rfl | rfl : j = 0 ∨ j = 1 ∨ j = 2 := by omega
      · rw [show ((0 : Nat) : Int) = 0 from rfl]
        have HTx := Lib.hid (((HTa.out.later HB1.out).later hbw))
        have s2 := (hbw.cell (block_lt_of_cell s1)).trans s1
        have HBw := Lib.hid hbw
        have HHj := Lib.hid hjj.out
        have hwb : w1.heap.size ≤ wr.heap.size := hbw.size
        have hGw : ∀ b, F b → b < wr.heap.size := fun b hb => by have := HF.out b hb; have := HB1.out.size; omega
        have hb0w : b0 < wr.heap.size := by have := block_lt_of_cell s2; exact this
        clear hbw hjj
        obtain ⟨tb, htb⟩ : ∃ tb, wr.heap.size = tb := ⟨_, rfl⟩
        obtain ⟨W2, hW2⟩ : ∃ W2, (wr.alloc (.cells #[.int .i64 a.kind, .string a.name, .int .i64 a.var, .slice A1 a.args.length c1] 24)).alloc (.cells #[.int .i64 4096] 43) = W2 := ⟨_, rfl⟩
        have hk2 : Keeps (fun _ => False) wr W2 := by rw [← hW2]; exact ((Keeps.refl _ _).alloc _).alloc _
        have ht2 : Blk W2 tb 24 [.int .i64 a.kind, .string a.name, .int .i64 a.var, .slice A1 a.args.length c1] := by
          rw [← hW2, ← htb]; exact (Blk.new wr _ [_, _, _, _]).alloc _
        have hc2 : Blk W2 (tb + 1) 43 [.int .i64 4096] := by
          have := Blk.new (wr.alloc (.cells #[.int .i64 a.kind, .string a.name, .int .i64 a.var, .slice A1 a.args.length c1] 24)) 43 [.int .i64 4096]
          rw [hW2] at this
          simpa [htb] using this
        have hzl2 := block_lt_of_cell HZ.out.c0
        have hs1z := HB1.out.size
        have HCk := Lib.hid (chk_all a W2 tb (tb + 1) _ 4096 1 (decide (4 ≤ a.kind)) ((HTx.out.keeps hk2 (fun _ _ h => h)).mono (fun b hb => by have := hGw b hb; omega)) hc2 (by omega) (by dsimp at hzl2; omega) ((((HZ.out.keeps (Keeps.of_below (X := fun _ => False) HB1.out) (fun h => h)).keeps (Keeps.of_below (X := fun _ => False) HBw.out) (fun h => h)).keeps hk2 (fun h => h))) (by omega) (by omega) (by omega) (by omega))
        have HW2 := Lib.hid hW2
        have HK2 := Lib.hid hk2
        have HT2 := Lib.hid ht2
        clear hW2 hk2 ht2 hc2
        go_wp2_with fail
        rw [HW2.out]
        with_reducible refine HCk.out.mono ?_
        rintro e w3 ⟨rfl, _, hk3⟩
        have hkw3 : Keeps (fun _ => False) wr w3 := HK2.out.trans hk3 (fun i hi h => by omega)
        obtain ⟨rc, hrc⟩ : ∃ rc, (chk a 4096 (decide (4 ≤ a.kind)) 1).1 = rc := ⟨_, rfl⟩
        have HRc := Lib.hid hrc
        rw [hrc]
        by_cases h1 : rc = 0
        · subst h1
          have hfine := chk_fine a _ _ _ hrc
          have hbnd := (chk_bound a 4096 (decide (4 ≤ a.kind)) 1).2 hrc
          have ht3 := HT2.out.keeps hk3 (fun h => by omega)
          have d0 := ht3.cell (i := 0) rfl
          have d1 := ht3.cell (i := 1) rfl
          have d2 := ht3.cell (i := 2) rfl
          have d3 := ht3.cell (i := 3) rfl
          have HFr := Lib.hid (free_any a w3 F _ (HTx.out.keeps hkw3 (fun _ _ h => h)) (by omega))
          have s3 := hkw3.cell s2 (fun h => h)
          have HKw3 := Lib.hid hkw3
          clear hfine hbnd ht3 hrc hk3 hkw3
          go_wp2_with fail
          with_reducible refine HFr.out.mono ?_
          rintro e w4 ⟨u, rfl, hb4, hsu⟩
          have s4 := hb4.cell (block_lt_of_cell s3) |>.trans s3
          obtain ⟨R, hR⟩ : ∃ R, (freeP a).any (fun v => decide ((σ.length : Int) ≤ v)) = R := ⟨_, rfl⟩
          have HCf := Lib.hid (intContainsFuncS (freeP a) u (fun b => w3.heap.size ≤ b) w4 17 #[.pointer (some ⟨b0, 0, none⟩)] (enters_of Tryd.func17 (by kernel_rfl) rfl)
            (fun k W' => W' = w4 ∧ R = ((freeP a).drop k).any (fun v => decide ((σ.length : Int) ≤ v))) (fun W' => W' = w4 ∧ R = true) ⟨rfl, by rw [List.drop_zero]; exact hR.symm⟩
            (fun k W' hI => by rw [hI.1]; exact hsu)
            (fun k hk W' hI => by
              obtain ⟨rfl, hI2⟩ := hI
              rw [List.drop_eq_getElem_cons hk, List.any_cons] at hI2
              refine (uni_clo b0 _ σ.length c _ W' s4).mono ?_
              rintro e w5 ⟨rfl, rfl⟩
              cases hd : decide ((σ.length : Int) ≤ (freeP a)[k])
              · rw [hd, Bool.false_or] at hI2
                exact .inl ⟨rfl, rfl, hI2⟩
              · rw [hd, Bool.true_or] at hI2
                exact .inr ⟨rfl, rfl, hI2⟩))
          have HRR := Lib.hid hR
          have hk4 : Keeps (fun _ => False) wr w4 := HKw3.out.trans (Keeps.of_below (X := fun _ => False) hb4) (fun _ _ h => h)
          have HK4 := Lib.hid hk4
          obtain ⟨A9, c9, rfl, _⟩ := hsu.form
          clear hsu hR hb4 hk4
          go_wp2_with fail
          with_reducible refine HCf.out.mono ?_
          rintro e w5 (⟨rfl, rfl, hR5⟩ | ⟨rfl, rfl, hR5⟩)
          · rw [List.drop_length] at hR5
            have hte : tyErr σ.length a = 0 := by
              unfold tyErr
              rw [HRc.out, if_neg (by decide), HRR.out, hR5]; rfl
            have HTe := Lib.hid hte
            clear hte hR5
            go_wp2_with fail
            go_roundw
            case rel => exact ⟨1, by omega, rfl, HBw.out.trans ((HK4.out.below (fun _ h => h.elim) (Nat.le_refl _)).mono hwb), fun m hm => by
              rcases Nat.lt_or_ge m 0 with hm2 | hm2
              · exact absurd hm2 (Nat.not_lt_zero m)
              · obtain rfl : m = 0 := by omega
                exact  HTe.out⟩
            case measure => simp [intOf]
          · have hte : tyErr σ.length a = 4 := by
              unfold tyErr
              rw [HRc.out, if_neg (by decide), HRR.out, hR5]; rfl
            have HR3 := Lib.hid (HE0.out (by rw [hte]; decide) trivial)
            rw [hte] at HR3
            clear hte hR5
            go_wp2_with fail
            go_ret2
            exact ⟨((HK0.out.below (fun _ h => h.elim) (Nat.le_refl _)).trans ((HB1.out.trans ((HBw.out.trans ((HK4.out.below (fun _ h => h.elim) (Nat.le_refl _)).mono hwb)).mono HB1.out.size)).mono HK0.out.size)), .inl ⟨by rw [← HR3.out.1]; decide, by rw [← HR3.out.1]; rfl⟩⟩
        · have h1b : (rc != 0) = true := bne_iff_ne.2 h1
          have hte : tyErr σ.length a = rc := by unfold tyErr; rw [HRc.out, if_pos h1]
          have HR3 := Lib.hid (HE0.out (by rw [hte]; exact h1) trivial)
          rw [hte] at HR3
          have HH1 := Lib.hid h1
          have HKw3 := Lib.hid hkw3
          clear hte h1 hkw3 hk3 hrc
          go_wp2_with fail
          go_ret2
          exact ⟨((HK0.out.below (fun _ h => h.elim) (Nat.le_refl _)).trans ((HB1.out.trans ((HBw.out.trans ((HKw3.out.below (fun _ h => h.elim) (Nat.le_refl _)).mono hwb)).mono HB1.out.size)).mono HK0.out.size)), .inl ⟨by rw [← HR3.out.1]; exact HH1.out, by rw [← HR3.out.1]; rfl⟩⟩
      · rw [show ((1 : Nat) : Int) = 1 from rfl]
        have HTx := Lib.hid (((HTb.out.later HB1.out).later hbw))
        have s2 := (hbw.cell (block_lt_of_cell s1)).trans s1
        have HBw := Lib.hid hbw
        have HHj := Lib.hid hjj.out
        have hwb : w1.heap.size ≤ wr.heap.size := hbw.size
        have hGw : ∀ b, F b → b < wr.heap.size := fun b hb => by have := HF.out b hb; have := HB1.out.size; omega
        have hb0w : b0 < wr.heap.size := by have := block_lt_of_cell s2; exact this
        clear hbw hjj
        obtain ⟨tb, htb⟩ : ∃ tb, wr.heap.size = tb := ⟨_, rfl⟩
        obtain ⟨W2, hW2⟩ : ∃ W2, (wr.alloc (.cells #[.int .i64 b.kind, .string b.name, .int .i64 b.var, .slice A2 b.args.length c2] 24)).alloc (.cells #[.int .i64 4096] 43) = W2 := ⟨_, rfl⟩
        have hk2 : Keeps (fun _ => False) wr W2 := by rw [← hW2]; exact ((Keeps.refl _ _).alloc _).alloc _
        have ht2 : Blk W2 tb 24 [.int .i64 b.kind, .string b.name, .int .i64 b.var, .slice A2 b.args.length c2] := by
          rw [← hW2, ← htb]; exact (Blk.new wr _ [_, _, _, _]).alloc _
        have hc2 : Blk W2 (tb + 1) 43 [.int .i64 4096] := by
          have := Blk.new (wr.alloc (.cells #[.int .i64 b.kind, .string b.name, .int .i64 b.var, .slice A2 b.args.length c2] 24)) 43 [.int .i64 4096]
          rw [hW2] at this
          simpa [htb] using this
        have hzl2 := block_lt_of_cell HZ.out.c0
        have hs1z := HB1.out.size
        have HCk := Lib.hid (chk_all b W2 tb (tb + 1) _ 4096 1 (decide (4 ≤ b.kind)) ((HTx.out.keeps hk2 (fun _ _ h => h)).mono (fun b hb => by have := hGw b hb; omega)) hc2 (by omega) (by dsimp at hzl2; omega) ((((HZ.out.keeps (Keeps.of_below (X := fun _ => False) HB1.out) (fun h => h)).keeps (Keeps.of_below (X := fun _ => False) HBw.out) (fun h => h)).keeps hk2 (fun h => h))) (by omega) (by omega) (by omega) (by omega))
        have HW2 := Lib.hid hW2
        have HK2 := Lib.hid hk2
        have HT2 := Lib.hid ht2
        clear hW2 hk2 ht2 hc2
        go_wp2_with fail
        rw [HW2.out]
        with_reducible refine HCk.out.mono ?_
        rintro e w3 ⟨rfl, _, hk3⟩
        have hkw3 : Keeps (fun _ => False) wr w3 := HK2.out.trans hk3 (fun i hi h => by omega)
        obtain ⟨rc, hrc⟩ : ∃ rc, (chk b 4096 (decide (4 ≤ b.kind)) 1).1 = rc := ⟨_, rfl⟩
        have HRc := Lib.hid hrc
        rw [hrc]
        by_cases h1 : rc = 0
        · subst h1
          have hfine := chk_fine b _ _ _ hrc
          have hbnd := (chk_bound b 4096 (decide (4 ≤ b.kind)) 1).2 hrc
          have ht3 := HT2.out.keeps hk3 (fun h => by omega)
          have d0 := ht3.cell (i := 0) rfl
          have d1 := ht3.cell (i := 1) rfl
          have d2 := ht3.cell (i := 2) rfl
          have d3 := ht3.cell (i := 3) rfl
          have HFr := Lib.hid (free_any b w3 F _ (HTx.out.keeps hkw3 (fun _ _ h => h)) (by omega))
          have s3 := hkw3.cell s2 (fun h => h)
          have HKw3 := Lib.hid hkw3
          clear hfine hbnd ht3 hrc hk3 hkw3
          go_wp2_with fail
          with_reducible refine HFr.out.mono ?_
          rintro e w4 ⟨u, rfl, hb4, hsu⟩
          have s4 := hb4.cell (block_lt_of_cell s3) |>.trans s3
          obtain ⟨R, hR⟩ : ∃ R, (freeP b).any (fun v => decide ((σ.length : Int) ≤ v)) = R := ⟨_, rfl⟩
          have HCf := Lib.hid (intContainsFuncS (freeP b) u (fun b => w3.heap.size ≤ b) w4 17 #[.pointer (some ⟨b0, 0, none⟩)] (enters_of Tryd.func17 (by kernel_rfl) rfl)
            (fun k W' => W' = w4 ∧ R = ((freeP b).drop k).any (fun v => decide ((σ.length : Int) ≤ v))) (fun W' => W' = w4 ∧ R = true) ⟨rfl, by rw [List.drop_zero]; exact hR.symm⟩
            (fun k W' hI => by rw [hI.1]; exact hsu)
            (fun k hk W' hI => by
              obtain ⟨rfl, hI2⟩ := hI
              rw [List.drop_eq_getElem_cons hk, List.any_cons] at hI2
              refine (uni_clo b0 _ σ.length c _ W' s4).mono ?_
              rintro e w5 ⟨rfl, rfl⟩
              cases hd : decide ((σ.length : Int) ≤ (freeP b)[k])
              · rw [hd, Bool.false_or] at hI2
                exact .inl ⟨rfl, rfl, hI2⟩
              · rw [hd, Bool.true_or] at hI2
                exact .inr ⟨rfl, rfl, hI2⟩))
          have HRR := Lib.hid hR
          have hk4 : Keeps (fun _ => False) wr w4 := HKw3.out.trans (Keeps.of_below (X := fun _ => False) hb4) (fun _ _ h => h)
          have HK4 := Lib.hid hk4
          obtain ⟨A9, c9, rfl, _⟩ := hsu.form
          clear hsu hR hb4 hk4
          go_wp2_with fail
          with_reducible refine HCf.out.mono ?_
          rintro e w5 (⟨rfl, rfl, hR5⟩ | ⟨rfl, rfl, hR5⟩)
          · rw [List.drop_length] at hR5
            have hte : tyErr σ.length b = 0 := by
              unfold tyErr
              rw [HRc.out, if_neg (by decide), HRR.out, hR5]; rfl
            have HTe := Lib.hid hte
            clear hte hR5
            go_wp2_with fail
            go_roundw
            case rel => exact ⟨2, by omega, rfl, HBw.out.trans ((HK4.out.below (fun _ h => h.elim) (Nat.le_refl _)).mono hwb), fun m hm => by
              rcases Nat.lt_or_ge m 1 with hm2 | hm2
              · exact HHj.out m hm2
              · obtain rfl : m = 1 := by omega
                exact HTe.out⟩
            case measure => simp [intOf]
          · have hte : tyErr σ.length b = 4 := by
              unfold tyErr
              rw [HRc.out, if_neg (by decide), HRR.out, hR5]; rfl
            have HR3 := Lib.hid (HE1.out (by rw [hte]; decide) HHj.out)
            rw [hte] at HR3
            clear hte hR5
            go_wp2_with fail
            go_ret2
            exact ⟨((HK0.out.below (fun _ h => h.elim) (Nat.le_refl _)).trans ((HB1.out.trans ((HBw.out.trans ((HK4.out.below (fun _ h => h.elim) (Nat.le_refl _)).mono hwb)).mono HB1.out.size)).mono HK0.out.size)), .inl ⟨by rw [← HR3.out.1]; decide, by rw [← HR3.out.1]; rfl⟩⟩
        · have h1b : (rc != 0) = true := bne_iff_ne.2 h1
          have hte : tyErr σ.length b = rc := by unfold tyErr; rw [HRc.out, if_pos h1]
          have HR3 := Lib.hid (HE1.out (by rw [hte]; exact h1) HHj.out)
          rw [hte] at HR3
          have HH1 := Lib.hid h1
          have HKw3 := Lib.hid hkw3
          clear hte h1 hkw3 hk3 hrc
          go_wp2_with fail
          go_ret2
          exact ⟨((HK0.out.below (fun _ h => h.elim) (Nat.le_refl _)).trans ((HB1.out.trans ((HBw.out.trans ((HKw3.out.below (fun _ h => h.elim) (Nat.le_refl _)).mono hwb)).mono HB1.out.size)).mono HK0.out.size)), .inl ⟨by rw [← HR3.out.1]; exact HH1.out, by rw [← HR3.out.1]; rfl⟩⟩
      · rw [show ((2 : Nat) : Int) = 2 from rfl]
        have hta : tyErr σ.length a = 0 := hjj.out 0 (by decide)
        have htb : tyErr σ.length b = 0 := hjj.out 1 (by decide)
        have hr3 := HR2.out
        rw [if_neg (fun h => h hta), if_neg (fun h => h htb)] at hr3
        have hs1 := HB1.out.size
        have hsw := hbw.size
        have hs0 := HK0.out.size
        have e0' := (hbw.cell (block_lt_of_cell s1)).trans s1
        have a0' := (hbw.cell (block_lt_of_cell a0)).trans a0
        have a1' := (hbw.cell (block_lt_of_cell a1)).trans a1
        have a2' := (hbw.cell (block_lt_of_cell a2)).trans a2
        have a3' := (hbw.cell (block_lt_of_cell a3)).trans a3
        have q0' := (hbw.cell (block_lt_of_cell q0)).trans q0
        have q1' := (hbw.cell (block_lt_of_cell q1)).trans q1
        have q2' := (hbw.cell (block_lt_of_cell q2)).trans q2
        have q3' := (hbw.cell (block_lt_of_cell q3)).trans q3
        have hyp := extend_any k q F wr _ σ ((HS.out.later HB1.out).later hbw) (fun b hb => by have := HF.out b hb; omega) HN2.out.1 H0.out HN2.out.2.free a b _ _ ((HTa.out.later HB1.out).later hbw) ((HTb.out.later HB1.out).later hbw) (tyErr_ok hta).2 (tyErr_ok htb).2 r σ' hr3
        unfold tyV at hyp
        have HEx := Lib.hid hyp
        have HBw := Lib.hid ((HK0.out.below (fun _ h => h.elim) (Nat.le_refl _)).trans ((HB1.out.trans (hbw.mono hs1)).mono hs0))
        clear hyp hbw hjj hta htb hr3 a0 a1 a2 a3 q0 q1 q2 q3 s1 s0
        go_wp2_with fail
        with_reducible refine HEx.out.mono ?_
        rintro e w5 ⟨hb5, (⟨hr0, rfl⟩ | ⟨hr0, g5, cap5, rfl, hs5⟩)⟩
        · have HB5 := Lib.hid (HBw.out.trans (hb5.mono HBw.out.size))
          have HR0 := Lib.hid hr0
          clear hb5 hr0
          go_wp2_with fail
          go_ret2
          exact ⟨HB5.out, .inl ⟨HR0.out, rfl⟩⟩
        · have HB5 := Lib.hid (HBw.out.trans (hb5.mono HBw.out.size))
          have HR0 := Lib.hid hr0
          have HS5 := Lib.hid (hs5.mono (G := fun b => F b ∨ (W.heap.size ≤ b ∧ b < w5.heap.size)) (fun b hb => hb.imp id (fun h => ⟨Nat.le_trans HBw.out.size h.1, h.2⟩)))
          clear hb5 hr0 hs5
          go_wp2_with fail
          go_ret2
          exact ⟨HB5.out, .inr ⟨HR0.out, g5, cap5, rfl, HS5.out⟩⟩
  · have hr2 := HR.out
    rw [if_pos he0] at hr2
    simp only [Option.some.injEq, Prod.mk.injEq] at hr2
    have HR2 := Lib.hid hr2
    have he0b : (e0 != 0) = true := by rw [bne_iff_ne]; exact he0
    have HE0 := Lib.hid he0
    clear hr2 he0 hb1
    go_wp2_with fail
    go_ret2
    refine ⟨(HK0.out.below (fun _ h => h.elim) (Nat.le_refl _)).trans (HB1.out.mono HK0.out.size), .inl ⟨?_, ?_⟩⟩
    · rw [← HR2.out.1]; exact HE0.out
    · rw [← HR2.out.1]; rfl
end Go.Proofs.YthchnabhbpdfgaaDoor
