/- UnifySymmetric: whatever the input, the law answers true. The card ties the variable unify.sizes to the program's text. -/
import Derived.Test.YthchnabhbpdfgaaDoorMRun
import Derived.Test.YthchnabhbpdfgaaDoorTill
import Derived.Test.YthchnabhbpdfgaaDoorHanded
import Derived.Deep.RegionHeld3
import Derived.Deep.DeepCutAuto
import Derived.Lib.LaidTab
import Derived.LaidSub
namespace Go.Proofs.YthchnabhbpdfgaaDoor.unifySymmetric
open Go.RowKit Go.Shelf Go.ChangeShapes Go.WideShapes Go.Sort Stab Go.Proofs.YthchnabhbpdfgaaDoor


set_option maxRecDepth 100000 in
set_option maxHeartbeats 16000000 in
theorem walk (a b : Ty) (av bv : Value) (W : World) (hTa : TyC W (· < W.heap.size) a av) (hTb : TyC W (· < W.heap.size) b bv) (hz : Szs W) :
    Calls Tryd.prog 3 #[tyV a av, tyV b bv] W fun e w' => e = .returned (.bool true) ∧ Below W.heap.size W w' := by
  obtain ⟨Aa, ca, rfl, _⟩ := hTa.form
  obtain ⟨Ab, cb, rfl, _⟩ := hTb.form
  obtain ⟨b0, hb0⟩ : ∃ b0, W.heap.size = b0 := ⟨_, rfl⟩
  obtain ⟨W0, hW0⟩ : ∃ W0, ((W.alloc (.cells #[.int .i64 a.kind, .string a.name, .int .i64 a.var, .slice Aa a.args.length ca] 24)).alloc (.cells #[.int .i64 b.kind, .string b.name, .int .i64 b.var, .slice Ab b.args.length cb] 24)) = W0 := ⟨_, rfl⟩
  have hk0 : Keeps (fun _ => False) W W0 := by rw [← hW0]; exact ((Keeps.refl _ _).alloc _).alloc _
  have hXa : Blk W0 (b0) 24 [.int .i64 a.kind, .string a.name, .int .i64 a.var, .slice Aa a.args.length ca] := by
    have := (Blk.new W 24 [.int .i64 a.kind, .string a.name, .int .i64 a.var, .slice Aa a.args.length ca]).alloc (.cells #[.int .i64 b.kind, .string b.name, .int .i64 b.var, .slice Ab b.args.length cb] 24)
    rw [hW0] at this
    simpa [hb0] using this
  have hXb : Blk W0 (b0 + 1) 24 [.int .i64 b.kind, .string b.name, .int .i64 b.var, .slice Ab b.args.length cb] := by
    have := Blk.new (W.alloc (.cells #[.int .i64 a.kind, .string a.name, .int .i64 a.var, .slice Aa a.args.length ca] 24)) 24 [.int .i64 b.kind, .string b.name, .int .i64 b.var, .slice Ab b.args.length cb]
    rw [hW0] at this
    simpa [hb0] using this
  have hs0 := hk0.size
  have ra0 := hXa.cell (i := 0) rfl
  have ra1 := hXa.cell (i := 1) rfl
  have ra2 := hXa.cell (i := 2) rfl
  have ra3 := hXa.cell (i := 3) rfl
  have rb0 := hXb.cell (i := 0) rfl
  have rb1 := hXb.cell (i := 1) rfl
  have rb2 := hXb.cell (i := 2) rfl
  have rb3 := hXb.cell (i := 3) rfl
  have HXa := Lib.hid hXa
  have HTa := Lib.hid ((hTa.keeps hk0 (fun _ _ h => h)).mono (fun b hb => Nat.lt_of_lt_of_le hb hs0) : TyC W0 (All W0) a _)
  have HXb := Lib.hid hXb
  have HTb := Lib.hid ((hTb.keeps hk0 (fun _ _ h => h)).mono (fun b hb => Nat.lt_of_lt_of_le hb hs0) : TyC W0 (All W0) b _)
  have HZ := Lib.hid (hz.keeps hk0 (fun h => h))
  have HK0 := Lib.hid hk0
  have HW0 := Lib.hid hW0
  have HB0 := Lib.hid hb0
  unfold tyV
  clear hz hk0 hW0 hb0 hs0 hTa hXa hTb hXb
  go_enter Tryd.func3, Tryd.ntmps3
  go_wp2_with fail
  rw [HW0.out, HB0.out]
  go_wp2_with fail
  refine (pair_any W0 a b Aa Ab ca cb).mono ?_
  rintro e w1 ⟨sv, rfl, hs1, hb1⟩
  obtain ⟨As, cs, rfl, _⟩ := hs1.form
  rw [idS_len]
  have HK1 := Lib.hid (Keeps.of_below (X := fun _ => False) hb1)
  have HS1 := Lib.hid (hs1.mono (fun b hb => hb.2) : Sl w1 (All w1) tyD (idS 12) _)
  clear hs1 hb1
  go_wp2_with fail
  with_reducible refine (num_any _).mono ?_
  rintro e w2 ⟨rfl, hk2⟩
  obtain ⟨σ0, hu0, hl0, hg0⟩ := first_num (v := 0) (by decide)
  have HK12 := Lib.hid (HK1.out.trans hk2 (fun _ _ h => h))
  have HU0 : Hid (Calls Tryd.prog 7 #[.slice As 12 cs, tyV numT (.slice none 0 0), .agg #[.int .i64 0, .string ⟨#[]⟩, .int .i64 0, .slice none 0 0]] w2 (URun w2 0 σ0)) := by
    have h := unify_run (sl_all HS1.out hk2) (HZ.out.keeps HK12.out (fun h => h)) (by rw [idS_len]; decide) num_ok (varT_ok (wfI_nat (j := 0) (by decide))) hu0 w2 (Keeps.refl _ _)
    rw [idS_len] at h
    exact h
  have HS2 := Lib.hid (sl_all HS1.out hk2)
  clear hk2 hu0
  go_wp2_with fail
  refine HU0.out.mono ?_
  rintro e w3 ⟨hk3, h3⟩
  rcases h3 with ⟨h3, _⟩ | ⟨_, gt, ct, rfl, hSt⟩
  · exact absurd rfl h3
  obtain ⟨gx, offx, xv, hadr, hgx, x0, x1, x2, x3, hTx⟩ := tyD.get hSt (i := 0) (by rw [hl0]; decide)
  simp only [Option.some.injEq, Addr.mk.injEq, and_true] at hadr
  obtain ⟨rfl, rfl⟩ := hadr
  have hgk : σ0[0] = numT := by
    rw [List.getElem?_eq_getElem (by rw [hl0]; decide)] at hg0
    exact Option.some.inj hg0
  rw [hgk] at x0
  rw [hl0]
  have HK03 := Lib.hid (HK12.out.trans hk3 (fun _ _ h => h))
  have HS3 := Lib.hid (sl_all HS2.out hk3)
  have HZ3 := Lib.hid (HZ.out.keeps HK03.out (fun h => h))
  have HTa3 := Lib.hid (tyc_all HTa.out HK03.out)
  have HXa3 := Lib.hid (HXa.out.keeps HK03.out (fun h => h))
  have HTb3 := Lib.hid (tyc_all HTb.out HK03.out)
  have HXb3 := Lib.hid (HXb.out.keeps HK03.out (fun h => h))
  clear ra0 ra1 ra2 ra3 rb0 rb1 rb2 rb3
  have hxa := HXa3.out
  have ra0 := hxa.cell (i := 0) rfl
  have ra1 := hxa.cell (i := 1) rfl
  have ra2 := hxa.cell (i := 2) rfl
  have ra3 := hxa.cell (i := 3) rfl
  have hxb := HXb3.out
  have rb0 := hxb.cell (i := 0) rfl
  have rb1 := hxb.cell (i := 1) rfl
  have rb2 := hxb.cell (i := 2) rfl
  have rb3 := hxb.cell (i := 3) rfl
  clear hxa hxb
  have HK3 := Lib.hid (HK0.out.trans HK03.out (fun _ _ h => h))
  clear hgk hg0 hl0 x1 x2 x3 hTx hgx hSt hk3
  obtain ⟨ka, qa, e1, τ, hu1⟩ := unifyS_total (idS 12) a b
  obtain ⟨kb, qb, e2, υ, hu2⟩ := unifyS_total (idS 12) b a
  have hU1 := unify_run HS3.out HZ3.out (by rw [idS_len]; decide) HTa3.out HTb3.out hu1
  have hU2 := fun (B : World) (hB : Keeps (fun _ => False) w3 B) => unify_run (sl_all HS3.out hB) (HZ3.out.keeps hB (fun h => h)) (by rw [idS_len]; decide) (tyc_all HTb3.out hB) (tyc_all HTa3.out hB) hu2
  rw [idS_len] at hU1 hU2
  unfold tyV at hU1 hU2
  have HU1 := Lib.hid hU1
  have HU2 := Lib.hid hU2
  have Hu1 := Lib.hid hu1
  have Hu2 := Lib.hid hu2
  clear hU1 hU2 hu1 hu2
  go_wp2_with fail
  with_reducible refine (HU1.out _ (Keeps.refl _ _)).mono ?_
  rintro e w4 ⟨hk4, h4⟩
  clear ra0 ra1 ra2 ra3 rb0 rb1 rb2 rb3
  have hxa := HXa3.out.keeps hk4 (fun h => h)
  have ra0 := hxa.cell (i := 0) rfl
  have ra1 := hxa.cell (i := 1) rfl
  have ra2 := hxa.cell (i := 2) rfl
  have ra3 := hxa.cell (i := 3) rfl
  have hxb := HXb3.out.keeps hk4 (fun h => h)
  have rb0 := hxb.cell (i := 0) rfl
  have rb1 := hxb.cell (i := 1) rfl
  have rb2 := hxb.cell (i := 2) rfl
  have rb3 := hxb.cell (i := 3) rfl
  clear hxa hxb
  have HK4 := Lib.hid hk4
  clear hk4
  rcases h4 with ⟨h1, rfl⟩ | ⟨rfl, g4, c4, rfl, hS4⟩
  · go_wp2_with fail
    with_reducible refine (HU2.out _ HK4.out _ (Keeps.refl _ _)).mono ?_
    rintro e w5 ⟨hk5, h5⟩
    have HK5 := Lib.hid hk5
    clear hk5
    rcases h5 with ⟨h2, rfl⟩ | ⟨rfl, g5, c5, rfl, hS5⟩
    · have k1 : (e1 != 0) = true := by rw [bne_iff_ne]; exact h1
      have k2 : (e1 == 0) = false := by rw [beq_eq_false_iff_ne]; exact h1
      have k3 : (e2 == 0) = false := by rw [beq_eq_false_iff_ne]; exact h2
      clear h1 h2
      go_wp2_with fail
      go_ret
      exact ⟨rfl, ((HK3.out.trans HK4.out (fun _ _ h => h)).trans HK5.out (fun _ _ h => h)).below (fun i h => h.elim) (Nat.le_refl _)⟩
    · obtain rfl : e1 = 2 := (swap_err Hu2.out Hu1.out).resolve_left h1
      clear h1 hS5
      go_wp2_with fail
      go_ret
      exact ⟨rfl, ((HK3.out.trans HK4.out (fun _ _ h => h)).trans HK5.out (fun _ _ h => h)).below (fun i h => h.elim) (Nat.le_refl _)⟩
  · have HS4 := Lib.hid hS4
    clear hS4
    go_wp2_with fail
    with_reducible refine (HU2.out _ HK4.out _ (Keeps.refl _ _)).mono ?_
    rintro e w5 ⟨hk5, h5⟩
    rcases h5 with ⟨h2, rfl⟩ | ⟨rfl, g5, c5, rfl, hS5⟩
    · obtain rfl : e2 = 2 := (swap_err Hu1.out Hu2.out).resolve_left h2
      have HK5 := Lib.hid hk5
      clear h2 hk5
      go_wp2_with fail
      go_ret
      exact ⟨rfl, ((HK3.out.trans HK4.out (fun _ _ h => h)).trans HK5.out (fun _ _ h => h)).below (fun i h => h.elim) (Nat.le_refl _)⟩
    · -- both unify
      have hfree := swap_free Hu1.out Hu2.out
      have ho1 := unifyS_out Hu1.out
      have ho2 := unifyS_out Hu2.out
      have hs35 := hk5.size
      have hk35 := HK4.out.trans hk5 (fun _ _ h => h)
      have HT5 := Lib.hid (tyc_all HTa3.out hk35)
      have hA1 := apply_run5 ho1.gd ho1.szd (sl_all HS4.out hk5) HT5.out ho1.inn.wa (ho1.step.vin ho1.inn.va) (by have := ho1.inn.na; omega)
      have hA2 := apply_run5 ho2.gd ho2.szd hS5 HT5.out ho1.inn.wa (ho2.step.vin ho1.inn.va) (by have := ho1.inn.na; omega)
      have hn1 : nodes (ap τ a) ≤ 33554432 := by have := ho1.szd.nodes ho1.gd a (ho1.step.vin ho1.inn.va); have := ho1.inn.na; omega
      have hn2 : nodes (ap υ a) ≤ 33554432 := by have := ho2.szd.nodes ho2.gd a (ho2.step.vin ho1.inn.va); have := ho1.inn.na; omega
      obtain ⟨x, hx⟩ : ∃ x, ap τ a = x := ⟨_, rfl⟩
      obtain ⟨y, hy⟩ : ∃ y, ap υ a = y := ⟨_, rfl⟩
      rw [hx] at hA1 hn1 hfree
      rw [hy] at hA2 hn2 hfree
      unfold tyV ARun5 at hA1 hA2
      obtain ⟨fl, hfl⟩ : ∃ fl, (freeP x).length = fl := ⟨_, rfl⟩
      rw [hfl] at hfree
      have HA1 := Lib.hid hA1
      have HA2 := Lib.hid hA2
      have HN1 := Lib.hid hn1
      have HN2 := Lib.hid hn2
      have HFx := Lib.hid hfl
      have HFy := Lib.hid hfree.symm
      have HK5 := Lib.hid hk35
      have hxa5 := HXa3.out.keeps hk35 (fun h => h)
      clear ra0 ra1 ra2 ra3
      have a0 := hxa5.cell (i := 0) rfl
      have a1 := hxa5.cell (i := 1) rfl
      have a2 := hxa5.cell (i := 2) rfl
      have a3 := hxa5.cell (i := 3) rfl
      have HQ9 : Hid (∀ X, Keeps (fun _ => False) w5 X → (X.cell? ⟨b0, 0, none⟩ = some (.int .i64 a.kind) ∧ X.cell? ⟨b0, 1, none⟩ = some (.string a.name) ∧ X.cell? ⟨b0, 2, none⟩ = some (.int .i64 a.var) ∧ X.cell? ⟨b0, 3, none⟩ = some (.slice Aa a.args.length ca))) := fun X hk => ⟨hk.cell a0 (fun h => h), hk.cell a1 (fun h => h), hk.cell a2 (fun h => h), hk.cell a3 (fun h => h)⟩
      clear hxa5 hA1 hA2 hn1 hn2 hfl hfree hx hy hk5 hk35 hS5 hs35 ho1 ho2 a0 a1 a2 a3 rb0 rb1 rb2 rb3
      go_upto_region 9 with (fail)
      go_cut [13, 14] from 79 to 84 (fun v13 v14 wd => ∃ g1 g2 Ax cx Ay cy, v13 = .pointer (some ⟨g1, 0, none⟩) ∧ v14 = .pointer (some ⟨g2, 0, none⟩) ∧ Blk wd g1 24 [.int .i64 x.kind, .string x.name, .int .i64 x.var, .slice Ax x.args.length cx] ∧ Blk wd g2 24 [.int .i64 y.kind, .string y.name, .int .i64 y.var, .slice Ay y.args.length cy] ∧ TyC wd (All wd) x (.slice Ax x.args.length cx) ∧ TyC wd (All wd) y (.slice Ay y.args.length cy) ∧ Keeps (fun _ => False) w5 wd)
      case first =>
        have hs := R9.start w5
        refine wp_region_noPanic ?_
        refine wp_region_till [8, 9] (fun X => X.cell? ⟨b0, 0, none⟩ = some (.int .i64 a.kind) ∧ X.cell? ⟨b0, 1, none⟩ = some (.string a.name) ∧ X.cell? ⟨b0, 2, none⟩ = some (.int .i64 a.var) ∧ X.cell? ⟨b0, 3, none⟩ = some (.slice Aa a.args.length ca)) (by kernel_rfl) ?_ (fun hE => ?_)
        · exact HQ9.out _ (by first | exact hs.kp | exact hs.drew.kp)
        have hS := hE (by kernel_rfl)
        refine wpAnyT_pure (i := 0) (oi := { dst := some 79, op := Op.move (Operand.tmp 9), type := 25, pos := "types.go:339", after := #[], guard := none }) (v := ?v9_0_1) rfl (by kernel_rfl) (fun _ _ _ h => h) (Or.inl ⟨by rfl, ?y9_0_1⟩) (fun _ => hS) ?_
        case y9_0_1 => (intro w hSw; go_simp; try with_reducible rfl)
        try simp only [Act.put, List.setIfInBounds_toArray, List.set_cons_zero, List.set_cons_succ]
        refine wpAnyT_take (i := 1) (oi := { dst := some 80, op := Op.load 24 (Operand.tmp 2), type := 24, pos := "types.go:339", after := #[], guard := none }) (v := ?v9_1_2) rfl (by kernel_rfl) (fun _ _ _ h => h) (Or.inl ⟨by rfl, ?y9_1_2⟩) hS ?_
        case y9_1_2 => (intro w hSw; (try dsimp only at hSw); go_simp; try with_reducible rfl)
        try simp only [Act.put, List.setIfInBounds_toArray, List.set_cons_zero, List.set_cons_succ]
        refine wpAnyT_pure (i := 3) (oi := { dst := some 82, op := Op.move (Operand.tmp 11), type := 25, pos := "types.go:339", after := #[], guard := none }) (v := ?v9_3_3) rfl (by kernel_rfl) (fun _ _ _ h => h) (Or.inl ⟨by rfl, ?y9_3_3⟩) (fun _ => hS) ?_
        case y9_3_3 => (intro w hSw; go_simp; try with_reducible rfl)
        try simp only [Act.put, List.setIfInBounds_toArray, List.set_cons_zero, List.set_cons_succ]
        refine wpAnyT_ready (rs := [2, 4, 6, 7]) (by kernel_rfl) rfl ?_
        refine AllT.cons (o := { dst := some 81, op := Op.call { callee := Callee.value (Operand.func 9), args := #[Operand.tmp 79, Operand.tmp 80], argTypes := #[25, 24] }, type := 24, pos := "types.go:339", after := #[⟨0, .data⟩, ⟨1, .data⟩], guard := none }) rfl (fun K hK => ?_) ?_
        · (go_simp; go_at_call 9; with_reducible refine (HA1.out _ (by first | exact hs.kp | exact hs.drew.kp)).mono ?_; rintro e wp ⟨Ax, cx, rfl, hT, hk⟩; (first | replace hs := hs.callx hT hk | replace hs := hs.drew.callx hT hk); clear hT hk; go_wp2_with fail)
          refine hK.out _ _ (fun _ => ?_) (fun hE => ?_)
          · exact HQ9.out _ (by first | exact hs.kp | exact hs.drew.kp)
          have hS := hE (by kernel_rfl)
          clear hK K hE
          try simp only [Act.put, List.setIfInBounds_toArray, List.set_cons_zero, List.set_cons_succ]
          refine wpAnyT_ready (rs := [4, 6, 7]) (by kernel_rfl) rfl ?_
          refine AllT.cons (o := { dst := some 83, op := Op.load 24 (Operand.tmp 2), type := 24, pos := "types.go:339", after := #[], guard := none }) rfl (fun K hK => ?_) ?_
          · go_simp
            refine hK.out _ _ (fun _ => ?_) (fun hE => ?_)
            · exact HQ9.out _ (by first | exact hs.kp | exact hs.drew.kp)
            have hS := hE (by kernel_rfl)
            clear hK K hE
            try simp only [Act.put, List.setIfInBounds_toArray, List.set_cons_zero, List.set_cons_succ]
            refine wpAnyT_ready (rs := [5, 6, 7]) (by kernel_rfl) rfl ?_
            refine AllT.cons (o := { dst := some 84, op := Op.call { callee := Callee.value (Operand.func 9), args := #[Operand.tmp 82, Operand.tmp 83], argTypes := #[25, 24] }, type := 24, pos := "types.go:339", after := #[⟨3, .data⟩, ⟨4, .data⟩, ⟨2, .chain⟩], guard := none }) rfl (fun K hK => ?_) ?_
            · (go_simp; go_at_call 9; with_reducible refine (HA2.out _ (by first | exact hs.kp | exact hs.drew.kp)).mono ?_; rintro e wr ⟨Ay, cy, rfl, hT, hk⟩; (first | replace hs := hs.cally hT hk | replace hs := hs.drew.cally hT hk); clear hT hk; go_wp2_with fail)
              refine hK.out _ _ (fun _ => ?_) (fun hE => ?_)
              · exact HQ9.out _ (by first | exact hs.kp | exact hs.drew.kp)
              have hS := hE (by kernel_rfl)
              clear hK K hE
              try simp only [Act.put, List.setIfInBounds_toArray, List.set_cons_zero, List.set_cons_succ]
              refine wpAnyT_ready (rs := [6, 7]) (by kernel_rfl) rfl ?_
              refine AllT.cons (o := { dst := some 13, op := Op.alloc 24, type := 0, pos := "types.go:339", after := #[], guard := none }) rfl (fun K hK => ?_) ?_
              · (go_simp; refine name_world ?_; intro wz6 hw; (first | replace hs := hs.box6 hw | replace hs := hs.drew.box6 hw | replace hs := hs.box6d hw | replace hs := hs.drew.box6d hw); (try rw [drew_size] at hs); clear hw)
                refine hK.out _ _ (fun _ => ?_) (fun hE => ?_)
                · exact HQ9.out _ (by first | exact hs.kp | exact hs.drew.kp)
                have hS := hE (by kernel_rfl)
                clear hK K hE
                try simp only [Act.put, List.setIfInBounds_toArray, List.set_cons_zero, List.set_cons_succ]
                refine wpAnyT_ready (rs := [7]) (by kernel_rfl) rfl ?_
                refine AllT.cons (o := { dst := some 14, op := Op.alloc 24, type := 0, pos := "types.go:339", after := #[], guard := none }) rfl (fun K hK => ?_) ?_
                · (go_simp; refine name_world ?_; intro wz7 hw; (first | replace hs := hs.box7 hw | replace hs := hs.drew.box7 hw | replace hs := hs.box7d hw | replace hs := hs.drew.box7d hw); (try rw [drew_size] at hs); clear hw)
                  refine hK.out _ _ (fun _ => ?_) (fun hE => ?_)
                  · exact HQ9.out _ (by first | exact hs.kp | exact hs.drew.kp)
                  have hS := hE (by kernel_rfl)
                  clear hK K hE
                  try simp only [Act.put, List.setIfInBounds_toArray, List.set_cons_zero, List.set_cons_succ]
                  refine wpAnyT_ready (rs := [8]) (by kernel_rfl) rfl ?_
                  refine AllT.cons (o := { dst := none, op := Op.store 24 (Operand.tmp 13) (Operand.tmp 81), type := 0, pos := "types.go:339", after := #[⟨6, .data⟩, ⟨2, .data⟩, ⟨5, .chain⟩, ⟨0, .phase⟩, ⟨1, .phase⟩, ⟨2, .phase⟩, ⟨3, .textOnly .lateStores⟩, ⟨4, .textOnly .lateStores⟩, ⟨5, .textOnly .lateStoresUnsure⟩, ⟨6, .phase⟩, ⟨7, .phase⟩], guard := none }) rfl (fun K hK => ?_) ?_
                  · (obtain ⟨hB6, -⟩ := hs.b6 _ rfl; have r0 := hB6.cell (i := 0) rfl; have r1 := hB6.cell (i := 1) rfl; have r2 := hB6.cell (i := 2) rfl; have r3 := hB6.cell (i := 3) rfl; have f0 := hB6.free 0; have f1 := hB6.free 1; have f2 := hB6.free 2; have f3 := hB6.free 3; go_simp)
                    refine hK.out _ _ (fun he => Bool.noConfusion (show false = true from he)) (fun hE => ?_)
                    clear hK K hE
                    try simp only [Act.put, List.setIfInBounds_toArray, List.set_cons_zero, List.set_cons_succ]
                    refine wpAnyT_ready (rs := [9]) (by kernel_rfl) rfl ?_
                    refine AllT.cons (o := { dst := none, op := Op.store 24 (Operand.tmp 14) (Operand.tmp 84), type := 0, pos := "types.go:339", after := #[⟨7, .data⟩, ⟨5, .data⟩, ⟨8, .chain⟩, ⟨0, .phase⟩, ⟨1, .phase⟩, ⟨2, .phase⟩, ⟨3, .phase⟩, ⟨4, .phase⟩, ⟨5, .phase⟩, ⟨6, .phase⟩, ⟨7, .phase⟩, ⟨8, .phase⟩], guard := none }) rfl (fun K hK => ?_) ?_
                    · (obtain ⟨hB6, -⟩ := hs.b6 _ rfl; obtain ⟨hB7, -⟩ := hs.b7 _ rfl; obtain ⟨-, hK6⟩ := four (show Blk _ _ _ [_, _, _, _] from hB6) (.int .i64 x.kind) (.string x.name) (.int .i64 x.var) (.slice Ax x.args.length cx); have hB7s := hB7.keeps hK6 (fun e => hs.ne _ _ rfl rfl e.symm); have q0 := hB7s.cell (i := 0) rfl; have q1 := hB7s.cell (i := 1) rfl; have q2 := hB7s.cell (i := 2) rfl; have q3 := hB7s.cell (i := 3) rfl; have h0 := hB7s.free 0; have h1 := hB7s.free 1; have h2 := hB7s.free 2; have h3 := hB7s.free 3; go_simp)
                      refine hK.out _ _ (fun he => Bool.noConfusion (show false = true from he)) (fun hE => ?_)
                      clear hK K hE
                      try simp only [Act.put, List.setIfInBounds_toArray, List.set_cons_zero, List.set_cons_succ]
                      refine wpAnyT_done (by kernel_rfl) ?_ _
                      refine NoPanic.normal ?_
                      go_wp2_with fail
                      go_meet
                      exact ⟨_, _, Ax, cx, Ay, cy, rfl, rfl, hs.fin rfl⟩
                    exact AllT.nil
                  exact AllT.nil
                exact AllT.nil
              refine AllT.cons (o := { dst := some 14, op := Op.alloc 24, type := 0, pos := "types.go:339", after := #[], guard := none }) rfl (fun K hK => ?_) ?_
              · (go_simp; refine name_world ?_; intro wz7 hw; (first | replace hs := hs.box7 hw | replace hs := hs.drew.box7 hw | replace hs := hs.box7d hw | replace hs := hs.drew.box7d hw); (try rw [drew_size] at hs); clear hw)
                refine hK.out _ _ (fun _ => ?_) (fun hE => ?_)
                · exact HQ9.out _ (by first | exact hs.kp | exact hs.drew.kp)
                have hS := hE (by kernel_rfl)
                clear hK K hE
                try simp only [Act.put, List.setIfInBounds_toArray, List.set_cons_zero, List.set_cons_succ]
                refine wpAnyT_ready (rs := [6]) (by kernel_rfl) rfl ?_
                refine AllT.cons (o := { dst := some 13, op := Op.alloc 24, type := 0, pos := "types.go:339", after := #[], guard := none }) rfl (fun K hK => ?_) ?_
                · (go_simp; refine name_world ?_; intro wz6 hw; (first | replace hs := hs.box6 hw | replace hs := hs.drew.box6 hw | replace hs := hs.box6d hw | replace hs := hs.drew.box6d hw); (try rw [drew_size] at hs); clear hw)
                  refine hK.out _ _ (fun _ => ?_) (fun hE => ?_)
                  · exact HQ9.out _ (by first | exact hs.kp | exact hs.drew.kp)
                  have hS := hE (by kernel_rfl)
                  clear hK K hE
                  try simp only [Act.put, List.setIfInBounds_toArray, List.set_cons_zero, List.set_cons_succ]
                  refine wpAnyT_ready (rs := [8]) (by kernel_rfl) rfl ?_
                  refine AllT.cons (o := { dst := none, op := Op.store 24 (Operand.tmp 13) (Operand.tmp 81), type := 0, pos := "types.go:339", after := #[⟨6, .data⟩, ⟨2, .data⟩, ⟨5, .chain⟩, ⟨0, .phase⟩, ⟨1, .phase⟩, ⟨2, .phase⟩, ⟨3, .textOnly .lateStores⟩, ⟨4, .textOnly .lateStores⟩, ⟨5, .textOnly .lateStoresUnsure⟩, ⟨6, .phase⟩, ⟨7, .phase⟩], guard := none }) rfl (fun K hK => ?_) ?_
                  · (obtain ⟨hB6, -⟩ := hs.b6 _ rfl; have r0 := hB6.cell (i := 0) rfl; have r1 := hB6.cell (i := 1) rfl; have r2 := hB6.cell (i := 2) rfl; have r3 := hB6.cell (i := 3) rfl; have f0 := hB6.free 0; have f1 := hB6.free 1; have f2 := hB6.free 2; have f3 := hB6.free 3; go_simp)
                    refine hK.out _ _ (fun he => Bool.noConfusion (show false = true from he)) (fun hE => ?_)
                    clear hK K hE
                    try simp only [Act.put, List.setIfInBounds_toArray, List.set_cons_zero, List.set_cons_succ]
                    refine wpAnyT_ready (rs := [9]) (by kernel_rfl) rfl ?_
                    refine AllT.cons (o := { dst := none, op := Op.store 24 (Operand.tmp 14) (Operand.tmp 84), type := 0, pos := "types.go:339", after := #[⟨7, .data⟩, ⟨5, .data⟩, ⟨8, .chain⟩, ⟨0, .phase⟩, ⟨1, .phase⟩, ⟨2, .phase⟩, ⟨3, .phase⟩, ⟨4, .phase⟩, ⟨5, .phase⟩, ⟨6, .phase⟩, ⟨7, .phase⟩, ⟨8, .phase⟩], guard := none }) rfl (fun K hK => ?_) ?_
                    · (obtain ⟨hB6, -⟩ := hs.b6 _ rfl; obtain ⟨hB7, -⟩ := hs.b7 _ rfl; obtain ⟨-, hK6⟩ := four (show Blk _ _ _ [_, _, _, _] from hB6) (.int .i64 x.kind) (.string x.name) (.int .i64 x.var) (.slice Ax x.args.length cx); have hB7s := hB7.keeps hK6 (fun e => hs.ne _ _ rfl rfl e.symm); have q0 := hB7s.cell (i := 0) rfl; have q1 := hB7s.cell (i := 1) rfl; have q2 := hB7s.cell (i := 2) rfl; have q3 := hB7s.cell (i := 3) rfl; have h0 := hB7s.free 0; have h1 := hB7s.free 1; have h2 := hB7s.free 2; have h3 := hB7s.free 3; go_simp)
                      refine hK.out _ _ (fun he => Bool.noConfusion (show false = true from he)) (fun hE => ?_)
                      clear hK K hE
                      try simp only [Act.put, List.setIfInBounds_toArray, List.set_cons_zero, List.set_cons_succ]
                      refine wpAnyT_done (by kernel_rfl) ?_ _
                      refine NoPanic.normal ?_
                      go_wp2_with fail
                      go_meet
                      exact ⟨_, _, Ax, cx, Ay, cy, rfl, rfl, hs.fin rfl⟩
                    exact AllT.nil
                  exact AllT.nil
                exact AllT.nil
              exact AllT.nil
            refine AllT.cons (o := { dst := some 13, op := Op.alloc 24, type := 0, pos := "types.go:339", after := #[], guard := none }) rfl (fun K hK => ?_) ?_
            · (go_simp; refine name_world ?_; intro wz6 hw; (first | replace hs := hs.box6 hw | replace hs := hs.drew.box6 hw | replace hs := hs.box6d hw | replace hs := hs.drew.box6d hw); (try rw [drew_size] at hs); clear hw)
              refine hK.out _ _ (fun _ => ?_) (fun hE => ?_)
              · exact HQ9.out _ (by first | exact hs.kp | exact hs.drew.kp)
              have hS := hE (by kernel_rfl)
              clear hK K hE
              try simp only [Act.put, List.setIfInBounds_toArray, List.set_cons_zero, List.set_cons_succ]
              refine wpAnyT_ready (rs := [5, 7]) (by kernel_rfl) rfl ?_
              refine AllT.cons (o := { dst := some 84, op := Op.call { callee := Callee.value (Operand.func 9), args := #[Operand.tmp 82, Operand.tmp 83], argTypes := #[25, 24] }, type := 24, pos := "types.go:339", after := #[⟨3, .data⟩, ⟨4, .data⟩, ⟨2, .chain⟩], guard := none }) rfl (fun K hK => ?_) ?_
              · (go_simp; go_at_call 9; with_reducible refine (HA2.out _ (by first | exact hs.kp | exact hs.drew.kp)).mono ?_; rintro e wr ⟨Ay, cy, rfl, hT, hk⟩; (first | replace hs := hs.cally hT hk | replace hs := hs.drew.cally hT hk); clear hT hk; go_wp2_with fail)
                refine hK.out _ _ (fun _ => ?_) (fun hE => ?_)
                · exact HQ9.out _ (by first | exact hs.kp | exact hs.drew.kp)
                have hS := hE (by kernel_rfl)
                clear hK K hE
                try simp only [Act.put, List.setIfInBounds_toArray, List.set_cons_zero, List.set_cons_succ]
                refine wpAnyT_ready (rs := [7]) (by kernel_rfl) rfl ?_
                refine AllT.cons (o := { dst := some 14, op := Op.alloc 24, type := 0, pos := "types.go:339", after := #[], guard := none }) rfl (fun K hK => ?_) ?_
                · (go_simp; refine name_world ?_; intro wz7 hw; (first | replace hs := hs.box7 hw | replace hs := hs.drew.box7 hw | replace hs := hs.box7d hw | replace hs := hs.drew.box7d hw); (try rw [drew_size] at hs); clear hw)
                  refine hK.out _ _ (fun _ => ?_) (fun hE => ?_)
                  · exact HQ9.out _ (by first | exact hs.kp | exact hs.drew.kp)
                  have hS := hE (by kernel_rfl)
                  clear hK K hE
                  try simp only [Act.put, List.setIfInBounds_toArray, List.set_cons_zero, List.set_cons_succ]
                  refine wpAnyT_ready (rs := [8]) (by kernel_rfl) rfl ?_
                  refine AllT.cons (o := { dst := none, op := Op.store 24 (Operand.tmp 13) (Operand.tmp 81), type := 0, pos := "types.go:339", after := #[⟨6, .data⟩, ⟨2, .data⟩, ⟨5, .chain⟩, ⟨0, .phase⟩, ⟨1, .phase⟩, ⟨2, .phase⟩, ⟨3, .textOnly .lateStores⟩, ⟨4, .textOnly .lateStores⟩, ⟨5, .textOnly .lateStoresUnsure⟩, ⟨6, .phase⟩, ⟨7, .phase⟩], guard := none }) rfl (fun K hK => ?_) ?_
                  · (obtain ⟨hB6, -⟩ := hs.b6 _ rfl; have r0 := hB6.cell (i := 0) rfl; have r1 := hB6.cell (i := 1) rfl; have r2 := hB6.cell (i := 2) rfl; have r3 := hB6.cell (i := 3) rfl; have f0 := hB6.free 0; have f1 := hB6.free 1; have f2 := hB6.free 2; have f3 := hB6.free 3; go_simp)
                    refine hK.out _ _ (fun he => Bool.noConfusion (show false = true from he)) (fun hE => ?_)
                    clear hK K hE
                    try simp only [Act.put, List.setIfInBounds_toArray, List.set_cons_zero, List.set_cons_succ]
                    refine wpAnyT_ready (rs := [9]) (by kernel_rfl) rfl ?_
                    refine AllT.cons (o := { dst := none, op := Op.store 24 (Operand.tmp 14) (Operand.tmp 84), type := 0, pos := "types.go:339", after := #[⟨7, .data⟩, ⟨5, .data⟩, ⟨8, .chain⟩, ⟨0, .phase⟩, ⟨1, .phase⟩, ⟨2, .phase⟩, ⟨3, .phase⟩, ⟨4, .phase⟩, ⟨5, .phase⟩, ⟨6, .phase⟩, ⟨7, .phase⟩, ⟨8, .phase⟩], guard := none }) rfl (fun K hK => ?_) ?_
                    · (obtain ⟨hB6, -⟩ := hs.b6 _ rfl; obtain ⟨hB7, -⟩ := hs.b7 _ rfl; obtain ⟨-, hK6⟩ := four (show Blk _ _ _ [_, _, _, _] from hB6) (.int .i64 x.kind) (.string x.name) (.int .i64 x.var) (.slice Ax x.args.length cx); have hB7s := hB7.keeps hK6 (fun e => hs.ne _ _ rfl rfl e.symm); have q0 := hB7s.cell (i := 0) rfl; have q1 := hB7s.cell (i := 1) rfl; have q2 := hB7s.cell (i := 2) rfl; have q3 := hB7s.cell (i := 3) rfl; have h0 := hB7s.free 0; have h1 := hB7s.free 1; have h2 := hB7s.free 2; have h3 := hB7s.free 3; go_simp)
                      refine hK.out _ _ (fun he => Bool.noConfusion (show false = true from he)) (fun hE => ?_)
                      clear hK K hE
                      try simp only [Act.put, List.setIfInBounds_toArray, List.set_cons_zero, List.set_cons_succ]
                      refine wpAnyT_done (by kernel_rfl) ?_ _
                      refine NoPanic.normal ?_
                      go_wp2_with fail
                      go_meet
                      exact ⟨_, _, Ax, cx, Ay, cy, rfl, rfl, hs.fin rfl⟩
                    exact AllT.nil
                  exact AllT.nil
                exact AllT.nil
              refine AllT.cons (o := { dst := some 14, op := Op.alloc 24, type := 0, pos := "types.go:339", after := #[], guard := none }) rfl (fun K hK => ?_) ?_
              · (go_simp; refine name_world ?_; intro wz7 hw; (first | replace hs := hs.box7 hw | replace hs := hs.drew.box7 hw | replace hs := hs.box7d hw | replace hs := hs.drew.box7d hw); (try rw [drew_size] at hs); clear hw)
                refine hK.out _ _ (fun _ => ?_) (fun hE => ?_)
                · exact HQ9.out _ (by first | exact hs.kp | exact hs.drew.kp)
                have hS := hE (by kernel_rfl)
                clear hK K hE
                try simp only [Act.put, List.setIfInBounds_toArray, List.set_cons_zero, List.set_cons_succ]
                refine wpAnyT_ready (rs := [5]) (by kernel_rfl) rfl ?_
                refine AllT.cons (o := { dst := some 84, op := Op.call { callee := Callee.value (Operand.func 9), args := #[Operand.tmp 82, Operand.tmp 83], argTypes := #[25, 24] }, type := 24, pos := "types.go:339", after := #[⟨3, .data⟩, ⟨4, .data⟩, ⟨2, .chain⟩], guard := none }) rfl (fun K hK => ?_) ?_
                · (go_simp; go_at_call 9; with_reducible refine (HA2.out _ (by first | exact hs.kp | exact hs.drew.kp)).mono ?_; rintro e wr ⟨Ay, cy, rfl, hT, hk⟩; (first | replace hs := hs.cally hT hk | replace hs := hs.drew.cally hT hk); clear hT hk; go_wp2_with fail)
                  refine hK.out _ _ (fun _ => ?_) (fun hE => ?_)
                  · exact HQ9.out _ (by first | exact hs.kp | exact hs.drew.kp)
                  have hS := hE (by kernel_rfl)
                  clear hK K hE
                  try simp only [Act.put, List.setIfInBounds_toArray, List.set_cons_zero, List.set_cons_succ]
                  refine wpAnyT_ready (rs := [8]) (by kernel_rfl) rfl ?_
                  refine AllT.cons (o := { dst := none, op := Op.store 24 (Operand.tmp 13) (Operand.tmp 81), type := 0, pos := "types.go:339", after := #[⟨6, .data⟩, ⟨2, .data⟩, ⟨5, .chain⟩, ⟨0, .phase⟩, ⟨1, .phase⟩, ⟨2, .phase⟩, ⟨3, .textOnly .lateStores⟩, ⟨4, .textOnly .lateStores⟩, ⟨5, .textOnly .lateStoresUnsure⟩, ⟨6, .phase⟩, ⟨7, .phase⟩], guard := none }) rfl (fun K hK => ?_) ?_
                  · (obtain ⟨hB6, -⟩ := hs.b6 _ rfl; have r0 := hB6.cell (i := 0) rfl; have r1 := hB6.cell (i := 1) rfl; have r2 := hB6.cell (i := 2) rfl; have r3 := hB6.cell (i := 3) rfl; have f0 := hB6.free 0; have f1 := hB6.free 1; have f2 := hB6.free 2; have f3 := hB6.free 3; go_simp)
                    refine hK.out _ _ (fun he => Bool.noConfusion (show false = true from he)) (fun hE => ?_)
                    clear hK K hE
                    try simp only [Act.put, List.setIfInBounds_toArray, List.set_cons_zero, List.set_cons_succ]
                    refine wpAnyT_ready (rs := [9]) (by kernel_rfl) rfl ?_
                    refine AllT.cons (o := { dst := none, op := Op.store 24 (Operand.tmp 14) (Operand.tmp 84), type := 0, pos := "types.go:339", after := #[⟨7, .data⟩, ⟨5, .data⟩, ⟨8, .chain⟩, ⟨0, .phase⟩, ⟨1, .phase⟩, ⟨2, .phase⟩, ⟨3, .phase⟩, ⟨4, .phase⟩, ⟨5, .phase⟩, ⟨6, .phase⟩, ⟨7, .phase⟩, ⟨8, .phase⟩], guard := none }) rfl (fun K hK => ?_) ?_
                    · (obtain ⟨hB6, -⟩ := hs.b6 _ rfl; obtain ⟨hB7, -⟩ := hs.b7 _ rfl; obtain ⟨-, hK6⟩ := four (show Blk _ _ _ [_, _, _, _] from hB6) (.int .i64 x.kind) (.string x.name) (.int .i64 x.var) (.slice Ax x.args.length cx); have hB7s := hB7.keeps hK6 (fun e => hs.ne _ _ rfl rfl e.symm); have q0 := hB7s.cell (i := 0) rfl; have q1 := hB7s.cell (i := 1) rfl; have q2 := hB7s.cell (i := 2) rfl; have q3 := hB7s.cell (i := 3) rfl; have h0 := hB7s.free 0; have h1 := hB7s.free 1; have h2 := hB7s.free 2; have h3 := hB7s.free 3; go_simp)
                      refine hK.out _ _ (fun he => Bool.noConfusion (show false = true from he)) (fun hE => ?_)
                      clear hK K hE
                      try simp only [Act.put, List.setIfInBounds_toArray, List.set_cons_zero, List.set_cons_succ]
                      refine wpAnyT_done (by kernel_rfl) ?_ _
                      refine NoPanic.normal ?_
                      go_wp2_with fail
                      go_meet
                      exact ⟨_, _, Ax, cx, Ay, cy, rfl, rfl, hs.fin rfl⟩
                    exact AllT.nil
                  exact AllT.nil
                exact AllT.nil
              exact AllT.nil
            refine AllT.cons (o := { dst := some 14, op := Op.alloc 24, type := 0, pos := "types.go:339", after := #[], guard := none }) rfl (fun K hK => ?_) ?_
            · (go_simp; refine name_world ?_; intro wz7 hw; (first | replace hs := hs.box7 hw | replace hs := hs.drew.box7 hw | replace hs := hs.box7d hw | replace hs := hs.drew.box7d hw); (try rw [drew_size] at hs); clear hw)
              refine hK.out _ _ (fun _ => ?_) (fun hE => ?_)
              · exact HQ9.out _ (by first | exact hs.kp | exact hs.drew.kp)
              have hS := hE (by kernel_rfl)
              clear hK K hE
              try simp only [Act.put, List.setIfInBounds_toArray, List.set_cons_zero, List.set_cons_succ]
              refine wpAnyT_ready (rs := [5, 6]) (by kernel_rfl) rfl ?_
              refine AllT.cons (o := { dst := some 84, op := Op.call { callee := Callee.value (Operand.func 9), args := #[Operand.tmp 82, Operand.tmp 83], argTypes := #[25, 24] }, type := 24, pos := "types.go:339", after := #[⟨3, .data⟩, ⟨4, .data⟩, ⟨2, .chain⟩], guard := none }) rfl (fun K hK => ?_) ?_
              · (go_simp; go_at_call 9; with_reducible refine (HA2.out _ (by first | exact hs.kp | exact hs.drew.kp)).mono ?_; rintro e wr ⟨Ay, cy, rfl, hT, hk⟩; (first | replace hs := hs.cally hT hk | replace hs := hs.drew.cally hT hk); clear hT hk; go_wp2_with fail)
                refine hK.out _ _ (fun _ => ?_) (fun hE => ?_)
                · exact HQ9.out _ (by first | exact hs.kp | exact hs.drew.kp)
                have hS := hE (by kernel_rfl)
                clear hK K hE
                try simp only [Act.put, List.setIfInBounds_toArray, List.set_cons_zero, List.set_cons_succ]
                refine wpAnyT_ready (rs := [6]) (by kernel_rfl) rfl ?_
                refine AllT.cons (o := { dst := some 13, op := Op.alloc 24, type := 0, pos := "types.go:339", after := #[], guard := none }) rfl (fun K hK => ?_) ?_
                · (go_simp; refine name_world ?_; intro wz6 hw; (first | replace hs := hs.box6 hw | replace hs := hs.drew.box6 hw | replace hs := hs.box6d hw | replace hs := hs.drew.box6d hw); (try rw [drew_size] at hs); clear hw)
                  refine hK.out _ _ (fun _ => ?_) (fun hE => ?_)
                  · exact HQ9.out _ (by first | exact hs.kp | exact hs.drew.kp)
                  have hS := hE (by kernel_rfl)
                  clear hK K hE
                  try simp only [Act.put, List.setIfInBounds_toArray, List.set_cons_zero, List.set_cons_succ]
                  refine wpAnyT_ready (rs := [8]) (by kernel_rfl) rfl ?_
                  refine AllT.cons (o := { dst := none, op := Op.store 24 (Operand.tmp 13) (Operand.tmp 81), type := 0, pos := "types.go:339", after := #[⟨6, .data⟩, ⟨2, .data⟩, ⟨5, .chain⟩, ⟨0, .phase⟩, ⟨1, .phase⟩, ⟨2, .phase⟩, ⟨3, .textOnly .lateStores⟩, ⟨4, .textOnly .lateStores⟩, ⟨5, .textOnly .lateStoresUnsure⟩, ⟨6, .phase⟩, ⟨7, .phase⟩], guard := none }) rfl (fun K hK => ?_) ?_
                  · (obtain ⟨hB6, -⟩ := hs.b6 _ rfl; have r0 := hB6.cell (i := 0) rfl; have r1 := hB6.cell (i := 1) rfl; have r2 := hB6.cell (i := 2) rfl; have r3 := hB6.cell (i := 3) rfl; have f0 := hB6.free 0; have f1 := hB6.free 1; have f2 := hB6.free 2; have f3 := hB6.free 3; go_simp)
                    refine hK.out _ _ (fun he => Bool.noConfusion (show false = true from he)) (fun hE => ?_)
                    clear hK K hE
                    try simp only [Act.put, List.setIfInBounds_toArray, List.set_cons_zero, List.set_cons_succ]
                    refine wpAnyT_ready (rs := [9]) (by kernel_rfl) rfl ?_
                    refine AllT.cons (o := { dst := none, op := Op.store 24 (Operand.tmp 14) (Operand.tmp 84), type := 0, pos := "types.go:339", after := #[⟨7, .data⟩, ⟨5, .data⟩, ⟨8, .chain⟩, ⟨0, .phase⟩, ⟨1, .phase⟩, ⟨2, .phase⟩, ⟨3, .phase⟩, ⟨4, .phase⟩, ⟨5, .phase⟩, ⟨6, .phase⟩, ⟨7, .phase⟩, ⟨8, .phase⟩], guard := none }) rfl (fun K hK => ?_) ?_
                    · (obtain ⟨hB6, -⟩ := hs.b6 _ rfl; obtain ⟨hB7, -⟩ := hs.b7 _ rfl; obtain ⟨-, hK6⟩ := four (show Blk _ _ _ [_, _, _, _] from hB6) (.int .i64 x.kind) (.string x.name) (.int .i64 x.var) (.slice Ax x.args.length cx); have hB7s := hB7.keeps hK6 (fun e => hs.ne _ _ rfl rfl e.symm); have q0 := hB7s.cell (i := 0) rfl; have q1 := hB7s.cell (i := 1) rfl; have q2 := hB7s.cell (i := 2) rfl; have q3 := hB7s.cell (i := 3) rfl; have h0 := hB7s.free 0; have h1 := hB7s.free 1; have h2 := hB7s.free 2; have h3 := hB7s.free 3; go_simp)
                      refine hK.out _ _ (fun he => Bool.noConfusion (show false = true from he)) (fun hE => ?_)
                      clear hK K hE
                      try simp only [Act.put, List.setIfInBounds_toArray, List.set_cons_zero, List.set_cons_succ]
                      refine wpAnyT_done (by kernel_rfl) ?_ _
                      refine NoPanic.normal ?_
                      go_wp2_with fail
                      go_meet
                      exact ⟨_, _, Ax, cx, Ay, cy, rfl, rfl, hs.fin rfl⟩
                    exact AllT.nil
                  exact AllT.nil
                exact AllT.nil
              refine AllT.cons (o := { dst := some 13, op := Op.alloc 24, type := 0, pos := "types.go:339", after := #[], guard := none }) rfl (fun K hK => ?_) ?_
              · (go_simp; refine name_world ?_; intro wz6 hw; (first | replace hs := hs.box6 hw | replace hs := hs.drew.box6 hw | replace hs := hs.box6d hw | replace hs := hs.drew.box6d hw); (try rw [drew_size] at hs); clear hw)
                refine hK.out _ _ (fun _ => ?_) (fun hE => ?_)
                · exact HQ9.out _ (by first | exact hs.kp | exact hs.drew.kp)
                have hS := hE (by kernel_rfl)
                clear hK K hE
                try simp only [Act.put, List.setIfInBounds_toArray, List.set_cons_zero, List.set_cons_succ]
                refine wpAnyT_ready (rs := [5]) (by kernel_rfl) rfl ?_
                refine AllT.cons (o := { dst := some 84, op := Op.call { callee := Callee.value (Operand.func 9), args := #[Operand.tmp 82, Operand.tmp 83], argTypes := #[25, 24] }, type := 24, pos := "types.go:339", after := #[⟨3, .data⟩, ⟨4, .data⟩, ⟨2, .chain⟩], guard := none }) rfl (fun K hK => ?_) ?_
                · (go_simp; go_at_call 9; with_reducible refine (HA2.out _ (by first | exact hs.kp | exact hs.drew.kp)).mono ?_; rintro e wr ⟨Ay, cy, rfl, hT, hk⟩; (first | replace hs := hs.cally hT hk | replace hs := hs.drew.cally hT hk); clear hT hk; go_wp2_with fail)
                  refine hK.out _ _ (fun _ => ?_) (fun hE => ?_)
                  · exact HQ9.out _ (by first | exact hs.kp | exact hs.drew.kp)
                  have hS := hE (by kernel_rfl)
                  clear hK K hE
                  try simp only [Act.put, List.setIfInBounds_toArray, List.set_cons_zero, List.set_cons_succ]
                  refine wpAnyT_ready (rs := [8]) (by kernel_rfl) rfl ?_
                  refine AllT.cons (o := { dst := none, op := Op.store 24 (Operand.tmp 13) (Operand.tmp 81), type := 0, pos := "types.go:339", after := #[⟨6, .data⟩, ⟨2, .data⟩, ⟨5, .chain⟩, ⟨0, .phase⟩, ⟨1, .phase⟩, ⟨2, .phase⟩, ⟨3, .textOnly .lateStores⟩, ⟨4, .textOnly .lateStores⟩, ⟨5, .textOnly .lateStoresUnsure⟩, ⟨6, .phase⟩, ⟨7, .phase⟩], guard := none }) rfl (fun K hK => ?_) ?_
                  · (obtain ⟨hB6, -⟩ := hs.b6 _ rfl; have r0 := hB6.cell (i := 0) rfl; have r1 := hB6.cell (i := 1) rfl; have r2 := hB6.cell (i := 2) rfl; have r3 := hB6.cell (i := 3) rfl; have f0 := hB6.free 0; have f1 := hB6.free 1; have f2 := hB6.free 2; have f3 := hB6.free 3; go_simp)
                    refine hK.out _ _ (fun he => Bool.noConfusion (show false = true from he)) (fun hE => ?_)
                    clear hK K hE
                    try simp only [Act.put, List.setIfInBounds_toArray, List.set_cons_zero, List.set_cons_succ]
                    refine wpAnyT_ready (rs := [9]) (by kernel_rfl) rfl ?_
                    refine AllT.cons (o := { dst := none, op := Op.store 24 (Operand.tmp 14) (Operand.tmp 84), type := 0, pos := "types.go:339", after := #[⟨7, .data⟩, ⟨5, .data⟩, ⟨8, .chain⟩, ⟨0, .phase⟩, ⟨1, .phase⟩, ⟨2, .phase⟩, ⟨3, .phase⟩, ⟨4, .phase⟩, ⟨5, .phase⟩, ⟨6, .phase⟩, ⟨7, .phase⟩, ⟨8, .phase⟩], guard := none }) rfl (fun K hK => ?_) ?_
                    · (obtain ⟨hB6, -⟩ := hs.b6 _ rfl; obtain ⟨hB7, -⟩ := hs.b7 _ rfl; obtain ⟨-, hK6⟩ := four (show Blk _ _ _ [_, _, _, _] from hB6) (.int .i64 x.kind) (.string x.name) (.int .i64 x.var) (.slice Ax x.args.length cx); have hB7s := hB7.keeps hK6 (fun e => hs.ne _ _ rfl rfl e.symm); have q0 := hB7s.cell (i := 0) rfl; have q1 := hB7s.cell (i := 1) rfl; have q2 := hB7s.cell (i := 2) rfl; have q3 := hB7s.cell (i := 3) rfl; have h0 := hB7s.free 0; have h1 := hB7s.free 1; have h2 := hB7s.free 2; have h3 := hB7s.free 3; go_simp)
                      refine hK.out _ _ (fun he => Bool.noConfusion (show false = true from he)) (fun hE => ?_)
                      clear hK K hE
                      try simp only [Act.put, List.setIfInBounds_toArray, List.set_cons_zero, List.set_cons_succ]
                      refine wpAnyT_done (by kernel_rfl) ?_ _
                      refine NoPanic.normal ?_
                      go_wp2_with fail
                      go_meet
                      exact ⟨_, _, Ax, cx, Ay, cy, rfl, rfl, hs.fin rfl⟩
                    exact AllT.nil
                  exact AllT.nil
                exact AllT.nil
              exact AllT.nil
            exact AllT.nil
          refine AllT.cons (o := { dst := some 13, op := Op.alloc 24, type := 0, pos := "types.go:339", after := #[], guard := none }) rfl (fun K hK => ?_) ?_
          · (go_simp; refine name_world ?_; intro wz6 hw; (first | replace hs := hs.box6 hw | replace hs := hs.drew.box6 hw | replace hs := hs.box6d hw | replace hs := hs.drew.box6d hw); (try rw [drew_size] at hs); clear hw)
            refine hK.out _ _ (fun _ => ?_) (fun hE => ?_)
            · exact HQ9.out _ (by first | exact hs.kp | exact hs.drew.kp)
            have hS := hE (by kernel_rfl)
            clear hK K hE
            try simp only [Act.put, List.setIfInBounds_toArray, List.set_cons_zero, List.set_cons_succ]
            refine wpAnyT_ready (rs := [4, 7]) (by kernel_rfl) rfl ?_
            refine AllT.cons (o := { dst := some 83, op := Op.load 24 (Operand.tmp 2), type := 24, pos := "types.go:339", after := #[], guard := none }) rfl (fun K hK => ?_) ?_
            · go_simp
              refine hK.out _ _ (fun _ => ?_) (fun hE => ?_)
              · exact HQ9.out _ (by first | exact hs.kp | exact hs.drew.kp)
              have hS := hE (by kernel_rfl)
              clear hK K hE
              try simp only [Act.put, List.setIfInBounds_toArray, List.set_cons_zero, List.set_cons_succ]
              refine wpAnyT_ready (rs := [5, 7]) (by kernel_rfl) rfl ?_
              refine AllT.cons (o := { dst := some 84, op := Op.call { callee := Callee.value (Operand.func 9), args := #[Operand.tmp 82, Operand.tmp 83], argTypes := #[25, 24] }, type := 24, pos := "types.go:339", after := #[⟨3, .data⟩, ⟨4, .data⟩, ⟨2, .chain⟩], guard := none }) rfl (fun K hK => ?_) ?_
              · (go_simp; go_at_call 9; with_reducible refine (HA2.out _ (by first | exact hs.kp | exact hs.drew.kp)).mono ?_; rintro e wr ⟨Ay, cy, rfl, hT, hk⟩; (first | replace hs := hs.cally hT hk | replace hs := hs.drew.cally hT hk); clear hT hk; go_wp2_with fail)
                refine hK.out _ _ (fun _ => ?_) (fun hE => ?_)
                · exact HQ9.out _ (by first | exact hs.kp | exact hs.drew.kp)
                have hS := hE (by kernel_rfl)
                clear hK K hE
                try simp only [Act.put, List.setIfInBounds_toArray, List.set_cons_zero, List.set_cons_succ]
                refine wpAnyT_ready (rs := [7]) (by kernel_rfl) rfl ?_
                refine AllT.cons (o := { dst := some 14, op := Op.alloc 24, type := 0, pos := "types.go:339", after := #[], guard := none }) rfl (fun K hK => ?_) ?_
                · (go_simp; refine name_world ?_; intro wz7 hw; (first | replace hs := hs.box7 hw | replace hs := hs.drew.box7 hw | replace hs := hs.box7d hw | replace hs := hs.drew.box7d hw); (try rw [drew_size] at hs); clear hw)
                  refine hK.out _ _ (fun _ => ?_) (fun hE => ?_)
                  · exact HQ9.out _ (by first | exact hs.kp | exact hs.drew.kp)
                  have hS := hE (by kernel_rfl)
                  clear hK K hE
                  try simp only [Act.put, List.setIfInBounds_toArray, List.set_cons_zero, List.set_cons_succ]
                  refine wpAnyT_ready (rs := [8]) (by kernel_rfl) rfl ?_
                  refine AllT.cons (o := { dst := none, op := Op.store 24 (Operand.tmp 13) (Operand.tmp 81), type := 0, pos := "types.go:339", after := #[⟨6, .data⟩, ⟨2, .data⟩, ⟨5, .chain⟩, ⟨0, .phase⟩, ⟨1, .phase⟩, ⟨2, .phase⟩, ⟨3, .textOnly .lateStores⟩, ⟨4, .textOnly .lateStores⟩, ⟨5, .textOnly .lateStoresUnsure⟩, ⟨6, .phase⟩, ⟨7, .phase⟩], guard := none }) rfl (fun K hK => ?_) ?_
                  · (obtain ⟨hB6, -⟩ := hs.b6 _ rfl; have r0 := hB6.cell (i := 0) rfl; have r1 := hB6.cell (i := 1) rfl; have r2 := hB6.cell (i := 2) rfl; have r3 := hB6.cell (i := 3) rfl; have f0 := hB6.free 0; have f1 := hB6.free 1; have f2 := hB6.free 2; have f3 := hB6.free 3; go_simp)
                    refine hK.out _ _ (fun he => Bool.noConfusion (show false = true from he)) (fun hE => ?_)
                    clear hK K hE
                    try simp only [Act.put, List.setIfInBounds_toArray, List.set_cons_zero, List.set_cons_succ]
                    refine wpAnyT_ready (rs := [9]) (by kernel_rfl) rfl ?_
                    refine AllT.cons (o := { dst := none, op := Op.store 24 (Operand.tmp 14) (Operand.tmp 84), type := 0, pos := "types.go:339", after := #[⟨7, .data⟩, ⟨5, .data⟩, ⟨8, .chain⟩, ⟨0, .phase⟩, ⟨1, .phase⟩, ⟨2, .phase⟩, ⟨3, .phase⟩, ⟨4, .phase⟩, ⟨5, .phase⟩, ⟨6, .phase⟩, ⟨7, .phase⟩, ⟨8, .phase⟩], guard := none }) rfl (fun K hK => ?_) ?_
                    · (obtain ⟨hB6, -⟩ := hs.b6 _ rfl; obtain ⟨hB7, -⟩ := hs.b7 _ rfl; obtain ⟨-, hK6⟩ := four (show Blk _ _ _ [_, _, _, _] from hB6) (.int .i64 x.kind) (.string x.name) (.int .i64 x.var) (.slice Ax x.args.length cx); have hB7s := hB7.keeps hK6 (fun e => hs.ne _ _ rfl rfl e.symm); have q0 := hB7s.cell (i := 0) rfl; have q1 := hB7s.cell (i := 1) rfl; have q2 := hB7s.cell (i := 2) rfl; have q3 := hB7s.cell (i := 3) rfl; have h0 := hB7s.free 0; have h1 := hB7s.free 1; have h2 := hB7s.free 2; have h3 := hB7s.free 3; go_simp)
                      refine hK.out _ _ (fun he => Bool.noConfusion (show false = true from he)) (fun hE => ?_)
                      clear hK K hE
                      try simp only [Act.put, List.setIfInBounds_toArray, List.set_cons_zero, List.set_cons_succ]
                      refine wpAnyT_done (by kernel_rfl) ?_ _
                      refine NoPanic.normal ?_
                      go_wp2_with fail
                      go_meet
                      exact ⟨_, _, Ax, cx, Ay, cy, rfl, rfl, hs.fin rfl⟩
                    exact AllT.nil
                  exact AllT.nil
                exact AllT.nil
              refine AllT.cons (o := { dst := some 14, op := Op.alloc 24, type := 0, pos := "types.go:339", after := #[], guard := none }) rfl (fun K hK => ?_) ?_
              · (go_simp; refine name_world ?_; intro wz7 hw; (first | replace hs := hs.box7 hw | replace hs := hs.drew.box7 hw | replace hs := hs.box7d hw | replace hs := hs.drew.box7d hw); (try rw [drew_size] at hs); clear hw)
                refine hK.out _ _ (fun _ => ?_) (fun hE => ?_)
                · exact HQ9.out _ (by first | exact hs.kp | exact hs.drew.kp)
                have hS := hE (by kernel_rfl)
                clear hK K hE
                try simp only [Act.put, List.setIfInBounds_toArray, List.set_cons_zero, List.set_cons_succ]
                refine wpAnyT_ready (rs := [5]) (by kernel_rfl) rfl ?_
                refine AllT.cons (o := { dst := some 84, op := Op.call { callee := Callee.value (Operand.func 9), args := #[Operand.tmp 82, Operand.tmp 83], argTypes := #[25, 24] }, type := 24, pos := "types.go:339", after := #[⟨3, .data⟩, ⟨4, .data⟩, ⟨2, .chain⟩], guard := none }) rfl (fun K hK => ?_) ?_
                · (go_simp; go_at_call 9; with_reducible refine (HA2.out _ (by first | exact hs.kp | exact hs.drew.kp)).mono ?_; rintro e wr ⟨Ay, cy, rfl, hT, hk⟩; (first | replace hs := hs.cally hT hk | replace hs := hs.drew.cally hT hk); clear hT hk; go_wp2_with fail)
                  refine hK.out _ _ (fun _ => ?_) (fun hE => ?_)
                  · exact HQ9.out _ (by first | exact hs.kp | exact hs.drew.kp)
                  have hS := hE (by kernel_rfl)
                  clear hK K hE
                  try simp only [Act.put, List.setIfInBounds_toArray, List.set_cons_zero, List.set_cons_succ]
                  refine wpAnyT_ready (rs := [8]) (by kernel_rfl) rfl ?_
                  refine AllT.cons (o := { dst := none, op := Op.store 24 (Operand.tmp 13) (Operand.tmp 81), type := 0, pos := "types.go:339", after := #[⟨6, .data⟩, ⟨2, .data⟩, ⟨5, .chain⟩, ⟨0, .phase⟩, ⟨1, .phase⟩, ⟨2, .phase⟩, ⟨3, .textOnly .lateStores⟩, ⟨4, .textOnly .lateStores⟩, ⟨5, .textOnly .lateStoresUnsure⟩, ⟨6, .phase⟩, ⟨7, .phase⟩], guard := none }) rfl (fun K hK => ?_) ?_
                  · (obtain ⟨hB6, -⟩ := hs.b6 _ rfl; have r0 := hB6.cell (i := 0) rfl; have r1 := hB6.cell (i := 1) rfl; have r2 := hB6.cell (i := 2) rfl; have r3 := hB6.cell (i := 3) rfl; have f0 := hB6.free 0; have f1 := hB6.free 1; have f2 := hB6.free 2; have f3 := hB6.free 3; go_simp)
                    refine hK.out _ _ (fun he => Bool.noConfusion (show false = true from he)) (fun hE => ?_)
                    clear hK K hE
                    try simp only [Act.put, List.setIfInBounds_toArray, List.set_cons_zero, List.set_cons_succ]
                    refine wpAnyT_ready (rs := [9]) (by kernel_rfl) rfl ?_
                    refine AllT.cons (o := { dst := none, op := Op.store 24 (Operand.tmp 14) (Operand.tmp 84), type := 0, pos := "types.go:339", after := #[⟨7, .data⟩, ⟨5, .data⟩, ⟨8, .chain⟩, ⟨0, .phase⟩, ⟨1, .phase⟩, ⟨2, .phase⟩, ⟨3, .phase⟩, ⟨4, .phase⟩, ⟨5, .phase⟩, ⟨6, .phase⟩, ⟨7, .phase⟩, ⟨8, .phase⟩], guard := none }) rfl (fun K hK => ?_) ?_
                    · (obtain ⟨hB6, -⟩ := hs.b6 _ rfl; obtain ⟨hB7, -⟩ := hs.b7 _ rfl; obtain ⟨-, hK6⟩ := four (show Blk _ _ _ [_, _, _, _] from hB6) (.int .i64 x.kind) (.string x.name) (.int .i64 x.var) (.slice Ax x.args.length cx); have hB7s := hB7.keeps hK6 (fun e => hs.ne _ _ rfl rfl e.symm); have q0 := hB7s.cell (i := 0) rfl; have q1 := hB7s.cell (i := 1) rfl; have q2 := hB7s.cell (i := 2) rfl; have q3 := hB7s.cell (i := 3) rfl; have h0 := hB7s.free 0; have h1 := hB7s.free 1; have h2 := hB7s.free 2; have h3 := hB7s.free 3; go_simp)
                      refine hK.out _ _ (fun he => Bool.noConfusion (show false = true from he)) (fun hE => ?_)
                      clear hK K hE
                      try simp only [Act.put, List.setIfInBounds_toArray, List.set_cons_zero, List.set_cons_succ]
                      refine wpAnyT_done (by kernel_rfl) ?_ _
                      refine NoPanic.normal ?_
                      go_wp2_with fail
                      go_meet
                      exact ⟨_, _, Ax, cx, Ay, cy, rfl, rfl, hs.fin rfl⟩
                    exact AllT.nil
                  exact AllT.nil
                exact AllT.nil
              exact AllT.nil
            refine AllT.cons (o := { dst := some 14, op := Op.alloc 24, type := 0, pos := "types.go:339", after := #[], guard := none }) rfl (fun K hK => ?_) ?_
            · (go_simp; refine name_world ?_; intro wz7 hw; (first | replace hs := hs.box7 hw | replace hs := hs.drew.box7 hw | replace hs := hs.box7d hw | replace hs := hs.drew.box7d hw); (try rw [drew_size] at hs); clear hw)
              refine hK.out _ _ (fun _ => ?_) (fun hE => ?_)
              · exact HQ9.out _ (by first | exact hs.kp | exact hs.drew.kp)
              have hS := hE (by kernel_rfl)
              clear hK K hE
              try simp only [Act.put, List.setIfInBounds_toArray, List.set_cons_zero, List.set_cons_succ]
              refine wpAnyT_ready (rs := [4]) (by kernel_rfl) rfl ?_
              refine AllT.cons (o := { dst := some 83, op := Op.load 24 (Operand.tmp 2), type := 24, pos := "types.go:339", after := #[], guard := none }) rfl (fun K hK => ?_) ?_
              · go_simp
                refine hK.out _ _ (fun _ => ?_) (fun hE => ?_)
                · exact HQ9.out _ (by first | exact hs.kp | exact hs.drew.kp)
                have hS := hE (by kernel_rfl)
                clear hK K hE
                try simp only [Act.put, List.setIfInBounds_toArray, List.set_cons_zero, List.set_cons_succ]
                refine wpAnyT_ready (rs := [5]) (by kernel_rfl) rfl ?_
                refine AllT.cons (o := { dst := some 84, op := Op.call { callee := Callee.value (Operand.func 9), args := #[Operand.tmp 82, Operand.tmp 83], argTypes := #[25, 24] }, type := 24, pos := "types.go:339", after := #[⟨3, .data⟩, ⟨4, .data⟩, ⟨2, .chain⟩], guard := none }) rfl (fun K hK => ?_) ?_
                · (go_simp; go_at_call 9; with_reducible refine (HA2.out _ (by first | exact hs.kp | exact hs.drew.kp)).mono ?_; rintro e wr ⟨Ay, cy, rfl, hT, hk⟩; (first | replace hs := hs.cally hT hk | replace hs := hs.drew.cally hT hk); clear hT hk; go_wp2_with fail)
                  refine hK.out _ _ (fun _ => ?_) (fun hE => ?_)
                  · exact HQ9.out _ (by first | exact hs.kp | exact hs.drew.kp)
                  have hS := hE (by kernel_rfl)
                  clear hK K hE
                  try simp only [Act.put, List.setIfInBounds_toArray, List.set_cons_zero, List.set_cons_succ]
                  refine wpAnyT_ready (rs := [8]) (by kernel_rfl) rfl ?_
                  refine AllT.cons (o := { dst := none, op := Op.store 24 (Operand.tmp 13) (Operand.tmp 81), type := 0, pos := "types.go:339", after := #[⟨6, .data⟩, ⟨2, .data⟩, ⟨5, .chain⟩, ⟨0, .phase⟩, ⟨1, .phase⟩, ⟨2, .phase⟩, ⟨3, .textOnly .lateStores⟩, ⟨4, .textOnly .lateStores⟩, ⟨5, .textOnly .lateStoresUnsure⟩, ⟨6, .phase⟩, ⟨7, .phase⟩], guard := none }) rfl (fun K hK => ?_) ?_
                  · (obtain ⟨hB6, -⟩ := hs.b6 _ rfl; have r0 := hB6.cell (i := 0) rfl; have r1 := hB6.cell (i := 1) rfl; have r2 := hB6.cell (i := 2) rfl; have r3 := hB6.cell (i := 3) rfl; have f0 := hB6.free 0; have f1 := hB6.free 1; have f2 := hB6.free 2; have f3 := hB6.free 3; go_simp)
                    refine hK.out _ _ (fun he => Bool.noConfusion (show false = true from he)) (fun hE => ?_)
                    clear hK K hE
                    try simp only [Act.put, List.setIfInBounds_toArray, List.set_cons_zero, List.set_cons_succ]
                    refine wpAnyT_ready (rs := [9]) (by kernel_rfl) rfl ?_
                    refine AllT.cons (o := { dst := none, op := Op.store 24 (Operand.tmp 14) (Operand.tmp 84), type := 0, pos := "types.go:339", after := #[⟨7, .data⟩, ⟨5, .data⟩, ⟨8, .chain⟩, ⟨0, .phase⟩, ⟨1, .phase⟩, ⟨2, .phase⟩, ⟨3, .phase⟩, ⟨4, .phase⟩, ⟨5, .phase⟩, ⟨6, .phase⟩, ⟨7, .phase⟩, ⟨8, .phase⟩], guard := none }) rfl (fun K hK => ?_) ?_
                    · (obtain ⟨hB6, -⟩ := hs.b6 _ rfl; obtain ⟨hB7, -⟩ := hs.b7 _ rfl; obtain ⟨-, hK6⟩ := four (show Blk _ _ _ [_, _, _, _] from hB6) (.int .i64 x.kind) (.string x.name) (.int .i64 x.var) (.slice Ax x.args.length cx); have hB7s := hB7.keeps hK6 (fun e => hs.ne _ _ rfl rfl e.symm); have q0 := hB7s.cell (i := 0) rfl; have q1 := hB7s.cell (i := 1) rfl; have q2 := hB7s.cell (i := 2) rfl; have q3 := hB7s.cell (i := 3) rfl; have h0 := hB7s.free 0; have h1 := hB7s.free 1; have h2 := hB7s.free 2; have h3 := hB7s.free 3; go_simp)
                      refine hK.out _ _ (fun he => Bool.noConfusion (show false = true from he)) (fun hE => ?_)
                      clear hK K hE
                      try simp only [Act.put, List.setIfInBounds_toArray, List.set_cons_zero, List.set_cons_succ]
                      refine wpAnyT_done (by kernel_rfl) ?_ _
                      refine NoPanic.normal ?_
                      go_wp2_with fail
                      go_meet
                      exact ⟨_, _, Ax, cx, Ay, cy, rfl, rfl, hs.fin rfl⟩
                    exact AllT.nil
                  exact AllT.nil
                exact AllT.nil
              exact AllT.nil
            exact AllT.nil
          refine AllT.cons (o := { dst := some 14, op := Op.alloc 24, type := 0, pos := "types.go:339", after := #[], guard := none }) rfl (fun K hK => ?_) ?_
          · (go_simp; refine name_world ?_; intro wz7 hw; (first | replace hs := hs.box7 hw | replace hs := hs.drew.box7 hw | replace hs := hs.box7d hw | replace hs := hs.drew.box7d hw); (try rw [drew_size] at hs); clear hw)
            refine hK.out _ _ (fun _ => ?_) (fun hE => ?_)
            · exact HQ9.out _ (by first | exact hs.kp | exact hs.drew.kp)
            have hS := hE (by kernel_rfl)
            clear hK K hE
            try simp only [Act.put, List.setIfInBounds_toArray, List.set_cons_zero, List.set_cons_succ]
            refine wpAnyT_ready (rs := [4, 6]) (by kernel_rfl) rfl ?_
            refine AllT.cons (o := { dst := some 83, op := Op.load 24 (Operand.tmp 2), type := 24, pos := "types.go:339", after := #[], guard := none }) rfl (fun K hK => ?_) ?_
            · go_simp
              refine hK.out _ _ (fun _ => ?_) (fun hE => ?_)
              · exact HQ9.out _ (by first | exact hs.kp | exact hs.drew.kp)
              have hS := hE (by kernel_rfl)
              clear hK K hE
              try simp only [Act.put, List.setIfInBounds_toArray, List.set_cons_zero, List.set_cons_succ]
              refine wpAnyT_ready (rs := [5, 6]) (by kernel_rfl) rfl ?_
              refine AllT.cons (o := { dst := some 84, op := Op.call { callee := Callee.value (Operand.func 9), args := #[Operand.tmp 82, Operand.tmp 83], argTypes := #[25, 24] }, type := 24, pos := "types.go:339", after := #[⟨3, .data⟩, ⟨4, .data⟩, ⟨2, .chain⟩], guard := none }) rfl (fun K hK => ?_) ?_
              · (go_simp; go_at_call 9; with_reducible refine (HA2.out _ (by first | exact hs.kp | exact hs.drew.kp)).mono ?_; rintro e wr ⟨Ay, cy, rfl, hT, hk⟩; (first | replace hs := hs.cally hT hk | replace hs := hs.drew.cally hT hk); clear hT hk; go_wp2_with fail)
                refine hK.out _ _ (fun _ => ?_) (fun hE => ?_)
                · exact HQ9.out _ (by first | exact hs.kp | exact hs.drew.kp)
                have hS := hE (by kernel_rfl)
                clear hK K hE
                try simp only [Act.put, List.setIfInBounds_toArray, List.set_cons_zero, List.set_cons_succ]
                refine wpAnyT_ready (rs := [6]) (by kernel_rfl) rfl ?_
                refine AllT.cons (o := { dst := some 13, op := Op.alloc 24, type := 0, pos := "types.go:339", after := #[], guard := none }) rfl (fun K hK => ?_) ?_
                · (go_simp; refine name_world ?_; intro wz6 hw; (first | replace hs := hs.box6 hw | replace hs := hs.drew.box6 hw | replace hs := hs.box6d hw | replace hs := hs.drew.box6d hw); (try rw [drew_size] at hs); clear hw)
                  refine hK.out _ _ (fun _ => ?_) (fun hE => ?_)
                  · exact HQ9.out _ (by first | exact hs.kp | exact hs.drew.kp)
                  have hS := hE (by kernel_rfl)
                  clear hK K hE
                  try simp only [Act.put, List.setIfInBounds_toArray, List.set_cons_zero, List.set_cons_succ]
                  refine wpAnyT_ready (rs := [8]) (by kernel_rfl) rfl ?_
                  refine AllT.cons (o := { dst := none, op := Op.store 24 (Operand.tmp 13) (Operand.tmp 81), type := 0, pos := "types.go:339", after := #[⟨6, .data⟩, ⟨2, .data⟩, ⟨5, .chain⟩, ⟨0, .phase⟩, ⟨1, .phase⟩, ⟨2, .phase⟩, ⟨3, .textOnly .lateStores⟩, ⟨4, .textOnly .lateStores⟩, ⟨5, .textOnly .lateStoresUnsure⟩, ⟨6, .phase⟩, ⟨7, .phase⟩], guard := none }) rfl (fun K hK => ?_) ?_
                  · (obtain ⟨hB6, -⟩ := hs.b6 _ rfl; have r0 := hB6.cell (i := 0) rfl; have r1 := hB6.cell (i := 1) rfl; have r2 := hB6.cell (i := 2) rfl; have r3 := hB6.cell (i := 3) rfl; have f0 := hB6.free 0; have f1 := hB6.free 1; have f2 := hB6.free 2; have f3 := hB6.free 3; go_simp)
                    refine hK.out _ _ (fun he => Bool.noConfusion (show false = true from he)) (fun hE => ?_)
                    clear hK K hE
                    try simp only [Act.put, List.setIfInBounds_toArray, List.set_cons_zero, List.set_cons_succ]
                    refine wpAnyT_ready (rs := [9]) (by kernel_rfl) rfl ?_
                    refine AllT.cons (o := { dst := none, op := Op.store 24 (Operand.tmp 14) (Operand.tmp 84), type := 0, pos := "types.go:339", after := #[⟨7, .data⟩, ⟨5, .data⟩, ⟨8, .chain⟩, ⟨0, .phase⟩, ⟨1, .phase⟩, ⟨2, .phase⟩, ⟨3, .phase⟩, ⟨4, .phase⟩, ⟨5, .phase⟩, ⟨6, .phase⟩, ⟨7, .phase⟩, ⟨8, .phase⟩], guard := none }) rfl (fun K hK => ?_) ?_
                    · (obtain ⟨hB6, -⟩ := hs.b6 _ rfl; obtain ⟨hB7, -⟩ := hs.b7 _ rfl; obtain ⟨-, hK6⟩ := four (show Blk _ _ _ [_, _, _, _] from hB6) (.int .i64 x.kind) (.string x.name) (.int .i64 x.var) (.slice Ax x.args.length cx); have hB7s := hB7.keeps hK6 (fun e => hs.ne _ _ rfl rfl e.symm); have q0 := hB7s.cell (i := 0) rfl; have q1 := hB7s.cell (i := 1) rfl; have q2 := hB7s.cell (i := 2) rfl; have q3 := hB7s.cell (i := 3) rfl; have h0 := hB7s.free 0; have h1 := hB7s.free 1; have h2 := hB7s.free 2; have h3 := hB7s.free 3; go_simp)
                      refine hK.out _ _ (fun he => Bool.noConfusion (show false = true from he)) (fun hE => ?_)
                      clear hK K hE
                      try simp only [Act.put, List.setIfInBounds_toArray, List.set_cons_zero, List.set_cons_succ]
                      refine wpAnyT_done (by kernel_rfl) ?_ _
                      refine NoPanic.normal ?_
                      go_wp2_with fail
                      go_meet
                      exact ⟨_, _, Ax, cx, Ay, cy, rfl, rfl, hs.fin rfl⟩
                    exact AllT.nil
                  exact AllT.nil
                exact AllT.nil
              refine AllT.cons (o := { dst := some 13, op := Op.alloc 24, type := 0, pos := "types.go:339", after := #[], guard := none }) rfl (fun K hK => ?_) ?_
              · (go_simp; refine name_world ?_; intro wz6 hw; (first | replace hs := hs.box6 hw | replace hs := hs.drew.box6 hw | replace hs := hs.box6d hw | replace hs := hs.drew.box6d hw); (try rw [drew_size] at hs); clear hw)
                refine hK.out _ _ (fun _ => ?_) (fun hE => ?_)
                · exact HQ9.out _ (by first | exact hs.kp | exact hs.drew.kp)
                have hS := hE (by kernel_rfl)
                clear hK K hE
                try simp only [Act.put, List.setIfInBounds_toArray, List.set_cons_zero, List.set_cons_succ]
                refine wpAnyT_ready (rs := [5]) (by kernel_rfl) rfl ?_
                refine AllT.cons (o := { dst := some 84, op := Op.call { callee := Callee.value (Operand.func 9), args := #[Operand.tmp 82, Operand.tmp 83], argTypes := #[25, 24] }, type := 24, pos := "types.go:339", after := #[⟨3, .data⟩, ⟨4, .data⟩, ⟨2, .chain⟩], guard := none }) rfl (fun K hK => ?_) ?_
                · (go_simp; go_at_call 9; with_reducible refine (HA2.out _ (by first | exact hs.kp | exact hs.drew.kp)).mono ?_; rintro e wr ⟨Ay, cy, rfl, hT, hk⟩; (first | replace hs := hs.cally hT hk | replace hs := hs.drew.cally hT hk); clear hT hk; go_wp2_with fail)
                  refine hK.out _ _ (fun _ => ?_) (fun hE => ?_)
                  · exact HQ9.out _ (by first | exact hs.kp | exact hs.drew.kp)
                  have hS := hE (by kernel_rfl)
                  clear hK K hE
                  try simp only [Act.put, List.setIfInBounds_toArray, List.set_cons_zero, List.set_cons_succ]
                  refine wpAnyT_ready (rs := [8]) (by kernel_rfl) rfl ?_
                  refine AllT.cons (o := { dst := none, op := Op.store 24 (Operand.tmp 13) (Operand.tmp 81), type := 0, pos := "types.go:339", after := #[⟨6, .data⟩, ⟨2, .data⟩, ⟨5, .chain⟩, ⟨0, .phase⟩, ⟨1, .phase⟩, ⟨2, .phase⟩, ⟨3, .textOnly .lateStores⟩, ⟨4, .textOnly .lateStores⟩, ⟨5, .textOnly .lateStoresUnsure⟩, ⟨6, .phase⟩, ⟨7, .phase⟩], guard := none }) rfl (fun K hK => ?_) ?_
                  · (obtain ⟨hB6, -⟩ := hs.b6 _ rfl; have r0 := hB6.cell (i := 0) rfl; have r1 := hB6.cell (i := 1) rfl; have r2 := hB6.cell (i := 2) rfl; have r3 := hB6.cell (i := 3) rfl; have f0 := hB6.free 0; have f1 := hB6.free 1; have f2 := hB6.free 2; have f3 := hB6.free 3; go_simp)
                    refine hK.out _ _ (fun he => Bool.noConfusion (show false = true from he)) (fun hE => ?_)
                    clear hK K hE
                    try simp only [Act.put, List.setIfInBounds_toArray, List.set_cons_zero, List.set_cons_succ]
                    refine wpAnyT_ready (rs := [9]) (by kernel_rfl) rfl ?_
                    refine AllT.cons (o := { dst := none, op := Op.store 24 (Operand.tmp 14) (Operand.tmp 84), type := 0, pos := "types.go:339", after := #[⟨7, .data⟩, ⟨5, .data⟩, ⟨8, .chain⟩, ⟨0, .phase⟩, ⟨1, .phase⟩, ⟨2, .phase⟩, ⟨3, .phase⟩, ⟨4, .phase⟩, ⟨5, .phase⟩, ⟨6, .phase⟩, ⟨7, .phase⟩, ⟨8, .phase⟩], guard := none }) rfl (fun K hK => ?_) ?_
                    · (obtain ⟨hB6, -⟩ := hs.b6 _ rfl; obtain ⟨hB7, -⟩ := hs.b7 _ rfl; obtain ⟨-, hK6⟩ := four (show Blk _ _ _ [_, _, _, _] from hB6) (.int .i64 x.kind) (.string x.name) (.int .i64 x.var) (.slice Ax x.args.length cx); have hB7s := hB7.keeps hK6 (fun e => hs.ne _ _ rfl rfl e.symm); have q0 := hB7s.cell (i := 0) rfl; have q1 := hB7s.cell (i := 1) rfl; have q2 := hB7s.cell (i := 2) rfl; have q3 := hB7s.cell (i := 3) rfl; have h0 := hB7s.free 0; have h1 := hB7s.free 1; have h2 := hB7s.free 2; have h3 := hB7s.free 3; go_simp)
                      refine hK.out _ _ (fun he => Bool.noConfusion (show false = true from he)) (fun hE => ?_)
                      clear hK K hE
                      try simp only [Act.put, List.setIfInBounds_toArray, List.set_cons_zero, List.set_cons_succ]
                      refine wpAnyT_done (by kernel_rfl) ?_ _
                      refine NoPanic.normal ?_
                      go_wp2_with fail
                      go_meet
                      exact ⟨_, _, Ax, cx, Ay, cy, rfl, rfl, hs.fin rfl⟩
                    exact AllT.nil
                  exact AllT.nil
                exact AllT.nil
              exact AllT.nil
            refine AllT.cons (o := { dst := some 13, op := Op.alloc 24, type := 0, pos := "types.go:339", after := #[], guard := none }) rfl (fun K hK => ?_) ?_
            · (go_simp; refine name_world ?_; intro wz6 hw; (first | replace hs := hs.box6 hw | replace hs := hs.drew.box6 hw | replace hs := hs.box6d hw | replace hs := hs.drew.box6d hw); (try rw [drew_size] at hs); clear hw)
              refine hK.out _ _ (fun _ => ?_) (fun hE => ?_)
              · exact HQ9.out _ (by first | exact hs.kp | exact hs.drew.kp)
              have hS := hE (by kernel_rfl)
              clear hK K hE
              try simp only [Act.put, List.setIfInBounds_toArray, List.set_cons_zero, List.set_cons_succ]
              refine wpAnyT_ready (rs := [4]) (by kernel_rfl) rfl ?_
              refine AllT.cons (o := { dst := some 83, op := Op.load 24 (Operand.tmp 2), type := 24, pos := "types.go:339", after := #[], guard := none }) rfl (fun K hK => ?_) ?_
              · go_simp
                refine hK.out _ _ (fun _ => ?_) (fun hE => ?_)
                · exact HQ9.out _ (by first | exact hs.kp | exact hs.drew.kp)
                have hS := hE (by kernel_rfl)
                clear hK K hE
                try simp only [Act.put, List.setIfInBounds_toArray, List.set_cons_zero, List.set_cons_succ]
                refine wpAnyT_ready (rs := [5]) (by kernel_rfl) rfl ?_
                refine AllT.cons (o := { dst := some 84, op := Op.call { callee := Callee.value (Operand.func 9), args := #[Operand.tmp 82, Operand.tmp 83], argTypes := #[25, 24] }, type := 24, pos := "types.go:339", after := #[⟨3, .data⟩, ⟨4, .data⟩, ⟨2, .chain⟩], guard := none }) rfl (fun K hK => ?_) ?_
                · (go_simp; go_at_call 9; with_reducible refine (HA2.out _ (by first | exact hs.kp | exact hs.drew.kp)).mono ?_; rintro e wr ⟨Ay, cy, rfl, hT, hk⟩; (first | replace hs := hs.cally hT hk | replace hs := hs.drew.cally hT hk); clear hT hk; go_wp2_with fail)
                  refine hK.out _ _ (fun _ => ?_) (fun hE => ?_)
                  · exact HQ9.out _ (by first | exact hs.kp | exact hs.drew.kp)
                  have hS := hE (by kernel_rfl)
                  clear hK K hE
                  try simp only [Act.put, List.setIfInBounds_toArray, List.set_cons_zero, List.set_cons_succ]
                  refine wpAnyT_ready (rs := [8]) (by kernel_rfl) rfl ?_
                  refine AllT.cons (o := { dst := none, op := Op.store 24 (Operand.tmp 13) (Operand.tmp 81), type := 0, pos := "types.go:339", after := #[⟨6, .data⟩, ⟨2, .data⟩, ⟨5, .chain⟩, ⟨0, .phase⟩, ⟨1, .phase⟩, ⟨2, .phase⟩, ⟨3, .textOnly .lateStores⟩, ⟨4, .textOnly .lateStores⟩, ⟨5, .textOnly .lateStoresUnsure⟩, ⟨6, .phase⟩, ⟨7, .phase⟩], guard := none }) rfl (fun K hK => ?_) ?_
                  · (obtain ⟨hB6, -⟩ := hs.b6 _ rfl; have r0 := hB6.cell (i := 0) rfl; have r1 := hB6.cell (i := 1) rfl; have r2 := hB6.cell (i := 2) rfl; have r3 := hB6.cell (i := 3) rfl; have f0 := hB6.free 0; have f1 := hB6.free 1; have f2 := hB6.free 2; have f3 := hB6.free 3; go_simp)
                    refine hK.out _ _ (fun he => Bool.noConfusion (show false = true from he)) (fun hE => ?_)
                    clear hK K hE
                    try simp only [Act.put, List.setIfInBounds_toArray, List.set_cons_zero, List.set_cons_succ]
                    refine wpAnyT_ready (rs := [9]) (by kernel_rfl) rfl ?_
                    refine AllT.cons (o := { dst := none, op := Op.store 24 (Operand.tmp 14) (Operand.tmp 84), type := 0, pos := "types.go:339", after := #[⟨7, .data⟩, ⟨5, .data⟩, ⟨8, .chain⟩, ⟨0, .phase⟩, ⟨1, .phase⟩, ⟨2, .phase⟩, ⟨3, .phase⟩, ⟨4, .phase⟩, ⟨5, .phase⟩, ⟨6, .phase⟩, ⟨7, .phase⟩, ⟨8, .phase⟩], guard := none }) rfl (fun K hK => ?_) ?_
                    · (obtain ⟨hB6, -⟩ := hs.b6 _ rfl; obtain ⟨hB7, -⟩ := hs.b7 _ rfl; obtain ⟨-, hK6⟩ := four (show Blk _ _ _ [_, _, _, _] from hB6) (.int .i64 x.kind) (.string x.name) (.int .i64 x.var) (.slice Ax x.args.length cx); have hB7s := hB7.keeps hK6 (fun e => hs.ne _ _ rfl rfl e.symm); have q0 := hB7s.cell (i := 0) rfl; have q1 := hB7s.cell (i := 1) rfl; have q2 := hB7s.cell (i := 2) rfl; have q3 := hB7s.cell (i := 3) rfl; have h0 := hB7s.free 0; have h1 := hB7s.free 1; have h2 := hB7s.free 2; have h3 := hB7s.free 3; go_simp)
                      refine hK.out _ _ (fun he => Bool.noConfusion (show false = true from he)) (fun hE => ?_)
                      clear hK K hE
                      try simp only [Act.put, List.setIfInBounds_toArray, List.set_cons_zero, List.set_cons_succ]
                      refine wpAnyT_done (by kernel_rfl) ?_ _
                      refine NoPanic.normal ?_
                      go_wp2_with fail
                      go_meet
                      exact ⟨_, _, Ax, cx, Ay, cy, rfl, rfl, hs.fin rfl⟩
                    exact AllT.nil
                  exact AllT.nil
                exact AllT.nil
              exact AllT.nil
            exact AllT.nil
          exact AllT.nil
        refine AllT.cons (o := { dst := some 83, op := Op.load 24 (Operand.tmp 2), type := 24, pos := "types.go:339", after := #[], guard := none }) rfl (fun K hK => ?_) ?_
        · go_simp
          refine hK.out _ _ (fun _ => ?_) (fun hE => ?_)
          · exact HQ9.out _ (by first | exact hs.kp | exact hs.drew.kp)
          have hS := hE (by kernel_rfl)
          clear hK K hE
          try simp only [Act.put, List.setIfInBounds_toArray, List.set_cons_zero, List.set_cons_succ]
          refine wpAnyT_ready (rs := [2, 6, 7]) (by kernel_rfl) rfl ?_
          refine AllT.cons (o := { dst := some 81, op := Op.call { callee := Callee.value (Operand.func 9), args := #[Operand.tmp 79, Operand.tmp 80], argTypes := #[25, 24] }, type := 24, pos := "types.go:339", after := #[⟨0, .data⟩, ⟨1, .data⟩], guard := none }) rfl (fun K hK => ?_) ?_
          · (go_simp; go_at_call 9; with_reducible refine (HA1.out _ (by first | exact hs.kp | exact hs.drew.kp)).mono ?_; rintro e wp ⟨Ax, cx, rfl, hT, hk⟩; (first | replace hs := hs.callx hT hk | replace hs := hs.drew.callx hT hk); clear hT hk; go_wp2_with fail)
            refine hK.out _ _ (fun _ => ?_) (fun hE => ?_)
            · exact HQ9.out _ (by first | exact hs.kp | exact hs.drew.kp)
            have hS := hE (by kernel_rfl)
            clear hK K hE
            try simp only [Act.put, List.setIfInBounds_toArray, List.set_cons_zero, List.set_cons_succ]
            refine wpAnyT_ready (rs := [5, 6, 7]) (by kernel_rfl) rfl ?_
            refine AllT.cons (o := { dst := some 84, op := Op.call { callee := Callee.value (Operand.func 9), args := #[Operand.tmp 82, Operand.tmp 83], argTypes := #[25, 24] }, type := 24, pos := "types.go:339", after := #[⟨3, .data⟩, ⟨4, .data⟩, ⟨2, .chain⟩], guard := none }) rfl (fun K hK => ?_) ?_
            · (go_simp; go_at_call 9; with_reducible refine (HA2.out _ (by first | exact hs.kp | exact hs.drew.kp)).mono ?_; rintro e wr ⟨Ay, cy, rfl, hT, hk⟩; (first | replace hs := hs.cally hT hk | replace hs := hs.drew.cally hT hk); clear hT hk; go_wp2_with fail)
              refine hK.out _ _ (fun _ => ?_) (fun hE => ?_)
              · exact HQ9.out _ (by first | exact hs.kp | exact hs.drew.kp)
              have hS := hE (by kernel_rfl)
              clear hK K hE
              try simp only [Act.put, List.setIfInBounds_toArray, List.set_cons_zero, List.set_cons_succ]
              refine wpAnyT_ready (rs := [6, 7]) (by kernel_rfl) rfl ?_
              refine AllT.cons (o := { dst := some 13, op := Op.alloc 24, type := 0, pos := "types.go:339", after := #[], guard := none }) rfl (fun K hK => ?_) ?_
              · (go_simp; refine name_world ?_; intro wz6 hw; (first | replace hs := hs.box6 hw | replace hs := hs.drew.box6 hw | replace hs := hs.box6d hw | replace hs := hs.drew.box6d hw); (try rw [drew_size] at hs); clear hw)
                refine hK.out _ _ (fun _ => ?_) (fun hE => ?_)
                · exact HQ9.out _ (by first | exact hs.kp | exact hs.drew.kp)
                have hS := hE (by kernel_rfl)
                clear hK K hE
                try simp only [Act.put, List.setIfInBounds_toArray, List.set_cons_zero, List.set_cons_succ]
                refine wpAnyT_ready (rs := [7]) (by kernel_rfl) rfl ?_
                refine AllT.cons (o := { dst := some 14, op := Op.alloc 24, type := 0, pos := "types.go:339", after := #[], guard := none }) rfl (fun K hK => ?_) ?_
                · (go_simp; refine name_world ?_; intro wz7 hw; (first | replace hs := hs.box7 hw | replace hs := hs.drew.box7 hw | replace hs := hs.box7d hw | replace hs := hs.drew.box7d hw); (try rw [drew_size] at hs); clear hw)
                  refine hK.out _ _ (fun _ => ?_) (fun hE => ?_)
                  · exact HQ9.out _ (by first | exact hs.kp | exact hs.drew.kp)
                  have hS := hE (by kernel_rfl)
                  clear hK K hE
                  try simp only [Act.put, List.setIfInBounds_toArray, List.set_cons_zero, List.set_cons_succ]
                  refine wpAnyT_ready (rs := [8]) (by kernel_rfl) rfl ?_
                  refine AllT.cons (o := { dst := none, op := Op.store 24 (Operand.tmp 13) (Operand.tmp 81), type := 0, pos := "types.go:339", after := #[⟨6, .data⟩, ⟨2, .data⟩, ⟨5, .chain⟩, ⟨0, .phase⟩, ⟨1, .phase⟩, ⟨2, .phase⟩, ⟨3, .textOnly .lateStores⟩, ⟨4, .textOnly .lateStores⟩, ⟨5, .textOnly .lateStoresUnsure⟩, ⟨6, .phase⟩, ⟨7, .phase⟩], guard := none }) rfl (fun K hK => ?_) ?_
                  · (obtain ⟨hB6, -⟩ := hs.b6 _ rfl; have r0 := hB6.cell (i := 0) rfl; have r1 := hB6.cell (i := 1) rfl; have r2 := hB6.cell (i := 2) rfl; have r3 := hB6.cell (i := 3) rfl; have f0 := hB6.free 0; have f1 := hB6.free 1; have f2 := hB6.free 2; have f3 := hB6.free 3; go_simp)
                    refine hK.out _ _ (fun he => Bool.noConfusion (show false = true from he)) (fun hE => ?_)
                    clear hK K hE
                    try simp only [Act.put, List.setIfInBounds_toArray, List.set_cons_zero, List.set_cons_succ]
                    refine wpAnyT_ready (rs := [9]) (by kernel_rfl) rfl ?_
                    refine AllT.cons (o := { dst := none, op := Op.store 24 (Operand.tmp 14) (Operand.tmp 84), type := 0, pos := "types.go:339", after := #[⟨7, .data⟩, ⟨5, .data⟩, ⟨8, .chain⟩, ⟨0, .phase⟩, ⟨1, .phase⟩, ⟨2, .phase⟩, ⟨3, .phase⟩, ⟨4, .phase⟩, ⟨5, .phase⟩, ⟨6, .phase⟩, ⟨7, .phase⟩, ⟨8, .phase⟩], guard := none }) rfl (fun K hK => ?_) ?_
                    · (obtain ⟨hB6, -⟩ := hs.b6 _ rfl; obtain ⟨hB7, -⟩ := hs.b7 _ rfl; obtain ⟨-, hK6⟩ := four (show Blk _ _ _ [_, _, _, _] from hB6) (.int .i64 x.kind) (.string x.name) (.int .i64 x.var) (.slice Ax x.args.length cx); have hB7s := hB7.keeps hK6 (fun e => hs.ne _ _ rfl rfl e.symm); have q0 := hB7s.cell (i := 0) rfl; have q1 := hB7s.cell (i := 1) rfl; have q2 := hB7s.cell (i := 2) rfl; have q3 := hB7s.cell (i := 3) rfl; have h0 := hB7s.free 0; have h1 := hB7s.free 1; have h2 := hB7s.free 2; have h3 := hB7s.free 3; go_simp)
                      refine hK.out _ _ (fun he => Bool.noConfusion (show false = true from he)) (fun hE => ?_)
                      clear hK K hE
                      try simp only [Act.put, List.setIfInBounds_toArray, List.set_cons_zero, List.set_cons_succ]
                      refine wpAnyT_done (by kernel_rfl) ?_ _
                      refine NoPanic.normal ?_
                      go_wp2_with fail
                      go_meet
                      exact ⟨_, _, Ax, cx, Ay, cy, rfl, rfl, hs.fin rfl⟩
                    exact AllT.nil
                  exact AllT.nil
                exact AllT.nil
              refine AllT.cons (o := { dst := some 14, op := Op.alloc 24, type := 0, pos := "types.go:339", after := #[], guard := none }) rfl (fun K hK => ?_) ?_
              · (go_simp; refine name_world ?_; intro wz7 hw; (first | replace hs := hs.box7 hw | replace hs := hs.drew.box7 hw | replace hs := hs.box7d hw | replace hs := hs.drew.box7d hw); (try rw [drew_size] at hs); clear hw)
                refine hK.out _ _ (fun _ => ?_) (fun hE => ?_)
                · exact HQ9.out _ (by first | exact hs.kp | exact hs.drew.kp)
                have hS := hE (by kernel_rfl)
                clear hK K hE
                try simp only [Act.put, List.setIfInBounds_toArray, List.set_cons_zero, List.set_cons_succ]
                refine wpAnyT_ready (rs := [6]) (by kernel_rfl) rfl ?_
                refine AllT.cons (o := { dst := some 13, op := Op.alloc 24, type := 0, pos := "types.go:339", after := #[], guard := none }) rfl (fun K hK => ?_) ?_
                · (go_simp; refine name_world ?_; intro wz6 hw; (first | replace hs := hs.box6 hw | replace hs := hs.drew.box6 hw | replace hs := hs.box6d hw | replace hs := hs.drew.box6d hw); (try rw [drew_size] at hs); clear hw)
                  refine hK.out _ _ (fun _ => ?_) (fun hE => ?_)
                  · exact HQ9.out _ (by first | exact hs.kp | exact hs.drew.kp)
                  have hS := hE (by kernel_rfl)
                  clear hK K hE
                  try simp only [Act.put, List.setIfInBounds_toArray, List.set_cons_zero, List.set_cons_succ]
                  refine wpAnyT_ready (rs := [8]) (by kernel_rfl) rfl ?_
                  refine AllT.cons (o := { dst := none, op := Op.store 24 (Operand.tmp 13) (Operand.tmp 81), type := 0, pos := "types.go:339", after := #[⟨6, .data⟩, ⟨2, .data⟩, ⟨5, .chain⟩, ⟨0, .phase⟩, ⟨1, .phase⟩, ⟨2, .phase⟩, ⟨3, .textOnly .lateStores⟩, ⟨4, .textOnly .lateStores⟩, ⟨5, .textOnly .lateStoresUnsure⟩, ⟨6, .phase⟩, ⟨7, .phase⟩], guard := none }) rfl (fun K hK => ?_) ?_
                  · (obtain ⟨hB6, -⟩ := hs.b6 _ rfl; have r0 := hB6.cell (i := 0) rfl; have r1 := hB6.cell (i := 1) rfl; have r2 := hB6.cell (i := 2) rfl; have r3 := hB6.cell (i := 3) rfl; have f0 := hB6.free 0; have f1 := hB6.free 1; have f2 := hB6.free 2; have f3 := hB6.free 3; go_simp)
                    refine hK.out _ _ (fun he => Bool.noConfusion (show false = true from he)) (fun hE => ?_)
                    clear hK K hE
                    try simp only [Act.put, List.setIfInBounds_toArray, List.set_cons_zero, List.set_cons_succ]
                    refine wpAnyT_ready (rs := [9]) (by kernel_rfl) rfl ?_
                    refine AllT.cons (o := { dst := none, op := Op.store 24 (Operand.tmp 14) (Operand.tmp 84), type := 0, pos := "types.go:339", after := #[⟨7, .data⟩, ⟨5, .data⟩, ⟨8, .chain⟩, ⟨0, .phase⟩, ⟨1, .phase⟩, ⟨2, .phase⟩, ⟨3, .phase⟩, ⟨4, .phase⟩, ⟨5, .phase⟩, ⟨6, .phase⟩, ⟨7, .phase⟩, ⟨8, .phase⟩], guard := none }) rfl (fun K hK => ?_) ?_
                    · (obtain ⟨hB6, -⟩ := hs.b6 _ rfl; obtain ⟨hB7, -⟩ := hs.b7 _ rfl; obtain ⟨-, hK6⟩ := four (show Blk _ _ _ [_, _, _, _] from hB6) (.int .i64 x.kind) (.string x.name) (.int .i64 x.var) (.slice Ax x.args.length cx); have hB7s := hB7.keeps hK6 (fun e => hs.ne _ _ rfl rfl e.symm); have q0 := hB7s.cell (i := 0) rfl; have q1 := hB7s.cell (i := 1) rfl; have q2 := hB7s.cell (i := 2) rfl; have q3 := hB7s.cell (i := 3) rfl; have h0 := hB7s.free 0; have h1 := hB7s.free 1; have h2 := hB7s.free 2; have h3 := hB7s.free 3; go_simp)
                      refine hK.out _ _ (fun he => Bool.noConfusion (show false = true from he)) (fun hE => ?_)
                      clear hK K hE
                      try simp only [Act.put, List.setIfInBounds_toArray, List.set_cons_zero, List.set_cons_succ]
                      refine wpAnyT_done (by kernel_rfl) ?_ _
                      refine NoPanic.normal ?_
                      go_wp2_with fail
                      go_meet
                      exact ⟨_, _, Ax, cx, Ay, cy, rfl, rfl, hs.fin rfl⟩
                    exact AllT.nil
                  exact AllT.nil
                exact AllT.nil
              exact AllT.nil
            refine AllT.cons (o := { dst := some 13, op := Op.alloc 24, type := 0, pos := "types.go:339", after := #[], guard := none }) rfl (fun K hK => ?_) ?_
            · (go_simp; refine name_world ?_; intro wz6 hw; (first | replace hs := hs.box6 hw | replace hs := hs.drew.box6 hw | replace hs := hs.box6d hw | replace hs := hs.drew.box6d hw); (try rw [drew_size] at hs); clear hw)
              refine hK.out _ _ (fun _ => ?_) (fun hE => ?_)
              · exact HQ9.out _ (by first | exact hs.kp | exact hs.drew.kp)
              have hS := hE (by kernel_rfl)
              clear hK K hE
              try simp only [Act.put, List.setIfInBounds_toArray, List.set_cons_zero, List.set_cons_succ]
              refine wpAnyT_ready (rs := [5, 7]) (by kernel_rfl) rfl ?_
              refine AllT.cons (o := { dst := some 84, op := Op.call { callee := Callee.value (Operand.func 9), args := #[Operand.tmp 82, Operand.tmp 83], argTypes := #[25, 24] }, type := 24, pos := "types.go:339", after := #[⟨3, .data⟩, ⟨4, .data⟩, ⟨2, .chain⟩], guard := none }) rfl (fun K hK => ?_) ?_
              · (go_simp; go_at_call 9; with_reducible refine (HA2.out _ (by first | exact hs.kp | exact hs.drew.kp)).mono ?_; rintro e wr ⟨Ay, cy, rfl, hT, hk⟩; (first | replace hs := hs.cally hT hk | replace hs := hs.drew.cally hT hk); clear hT hk; go_wp2_with fail)
                refine hK.out _ _ (fun _ => ?_) (fun hE => ?_)
                · exact HQ9.out _ (by first | exact hs.kp | exact hs.drew.kp)
                have hS := hE (by kernel_rfl)
                clear hK K hE
                try simp only [Act.put, List.setIfInBounds_toArray, List.set_cons_zero, List.set_cons_succ]
                refine wpAnyT_ready (rs := [7]) (by kernel_rfl) rfl ?_
                refine AllT.cons (o := { dst := some 14, op := Op.alloc 24, type := 0, pos := "types.go:339", after := #[], guard := none }) rfl (fun K hK => ?_) ?_
                · (go_simp; refine name_world ?_; intro wz7 hw; (first | replace hs := hs.box7 hw | replace hs := hs.drew.box7 hw | replace hs := hs.box7d hw | replace hs := hs.drew.box7d hw); (try rw [drew_size] at hs); clear hw)
                  refine hK.out _ _ (fun _ => ?_) (fun hE => ?_)
                  · exact HQ9.out _ (by first | exact hs.kp | exact hs.drew.kp)
                  have hS := hE (by kernel_rfl)
                  clear hK K hE
                  try simp only [Act.put, List.setIfInBounds_toArray, List.set_cons_zero, List.set_cons_succ]
                  refine wpAnyT_ready (rs := [8]) (by kernel_rfl) rfl ?_
                  refine AllT.cons (o := { dst := none, op := Op.store 24 (Operand.tmp 13) (Operand.tmp 81), type := 0, pos := "types.go:339", after := #[⟨6, .data⟩, ⟨2, .data⟩, ⟨5, .chain⟩, ⟨0, .phase⟩, ⟨1, .phase⟩, ⟨2, .phase⟩, ⟨3, .textOnly .lateStores⟩, ⟨4, .textOnly .lateStores⟩, ⟨5, .textOnly .lateStoresUnsure⟩, ⟨6, .phase⟩, ⟨7, .phase⟩], guard := none }) rfl (fun K hK => ?_) ?_
                  · (obtain ⟨hB6, -⟩ := hs.b6 _ rfl; have r0 := hB6.cell (i := 0) rfl; have r1 := hB6.cell (i := 1) rfl; have r2 := hB6.cell (i := 2) rfl; have r3 := hB6.cell (i := 3) rfl; have f0 := hB6.free 0; have f1 := hB6.free 1; have f2 := hB6.free 2; have f3 := hB6.free 3; go_simp)
                    refine hK.out _ _ (fun he => Bool.noConfusion (show false = true from he)) (fun hE => ?_)
                    clear hK K hE
                    try simp only [Act.put, List.setIfInBounds_toArray, List.set_cons_zero, List.set_cons_succ]
                    refine wpAnyT_ready (rs := [9]) (by kernel_rfl) rfl ?_
                    refine AllT.cons (o := { dst := none, op := Op.store 24 (Operand.tmp 14) (Operand.tmp 84), type := 0, pos := "types.go:339", after := #[⟨7, .data⟩, ⟨5, .data⟩, ⟨8, .chain⟩, ⟨0, .phase⟩, ⟨1, .phase⟩, ⟨2, .phase⟩, ⟨3, .phase⟩, ⟨4, .phase⟩, ⟨5, .phase⟩, ⟨6, .phase⟩, ⟨7, .phase⟩, ⟨8, .phase⟩], guard := none }) rfl (fun K hK => ?_) ?_
                    · (obtain ⟨hB6, -⟩ := hs.b6 _ rfl; obtain ⟨hB7, -⟩ := hs.b7 _ rfl; obtain ⟨-, hK6⟩ := four (show Blk _ _ _ [_, _, _, _] from hB6) (.int .i64 x.kind) (.string x.name) (.int .i64 x.var) (.slice Ax x.args.length cx); have hB7s := hB7.keeps hK6 (fun e => hs.ne _ _ rfl rfl e.symm); have q0 := hB7s.cell (i := 0) rfl; have q1 := hB7s.cell (i := 1) rfl; have q2 := hB7s.cell (i := 2) rfl; have q3 := hB7s.cell (i := 3) rfl; have h0 := hB7s.free 0; have h1 := hB7s.free 1; have h2 := hB7s.free 2; have h3 := hB7s.free 3; go_simp)
                      refine hK.out _ _ (fun he => Bool.noConfusion (show false = true from he)) (fun hE => ?_)
                      clear hK K hE
                      try simp only [Act.put, List.setIfInBounds_toArray, List.set_cons_zero, List.set_cons_succ]
                      refine wpAnyT_done (by kernel_rfl) ?_ _
                      refine NoPanic.normal ?_
                      go_wp2_with fail
                      go_meet
                      exact ⟨_, _, Ax, cx, Ay, cy, rfl, rfl, hs.fin rfl⟩
                    exact AllT.nil
                  exact AllT.nil
                exact AllT.nil
              refine AllT.cons (o := { dst := some 14, op := Op.alloc 24, type := 0, pos := "types.go:339", after := #[], guard := none }) rfl (fun K hK => ?_) ?_
              · (go_simp; refine name_world ?_; intro wz7 hw; (first | replace hs := hs.box7 hw | replace hs := hs.drew.box7 hw | replace hs := hs.box7d hw | replace hs := hs.drew.box7d hw); (try rw [drew_size] at hs); clear hw)
                refine hK.out _ _ (fun _ => ?_) (fun hE => ?_)
                · exact HQ9.out _ (by first | exact hs.kp | exact hs.drew.kp)
                have hS := hE (by kernel_rfl)
                clear hK K hE
                try simp only [Act.put, List.setIfInBounds_toArray, List.set_cons_zero, List.set_cons_succ]
                refine wpAnyT_ready (rs := [5]) (by kernel_rfl) rfl ?_
                refine AllT.cons (o := { dst := some 84, op := Op.call { callee := Callee.value (Operand.func 9), args := #[Operand.tmp 82, Operand.tmp 83], argTypes := #[25, 24] }, type := 24, pos := "types.go:339", after := #[⟨3, .data⟩, ⟨4, .data⟩, ⟨2, .chain⟩], guard := none }) rfl (fun K hK => ?_) ?_
                · (go_simp; go_at_call 9; with_reducible refine (HA2.out _ (by first | exact hs.kp | exact hs.drew.kp)).mono ?_; rintro e wr ⟨Ay, cy, rfl, hT, hk⟩; (first | replace hs := hs.cally hT hk | replace hs := hs.drew.cally hT hk); clear hT hk; go_wp2_with fail)
                  refine hK.out _ _ (fun _ => ?_) (fun hE => ?_)
                  · exact HQ9.out _ (by first | exact hs.kp | exact hs.drew.kp)
                  have hS := hE (by kernel_rfl)
                  clear hK K hE
                  try simp only [Act.put, List.setIfInBounds_toArray, List.set_cons_zero, List.set_cons_succ]
                  refine wpAnyT_ready (rs := [8]) (by kernel_rfl) rfl ?_
                  refine AllT.cons (o := { dst := none, op := Op.store 24 (Operand.tmp 13) (Operand.tmp 81), type := 0, pos := "types.go:339", after := #[⟨6, .data⟩, ⟨2, .data⟩, ⟨5, .chain⟩, ⟨0, .phase⟩, ⟨1, .phase⟩, ⟨2, .phase⟩, ⟨3, .textOnly .lateStores⟩, ⟨4, .textOnly .lateStores⟩, ⟨5, .textOnly .lateStoresUnsure⟩, ⟨6, .phase⟩, ⟨7, .phase⟩], guard := none }) rfl (fun K hK => ?_) ?_
                  · (obtain ⟨hB6, -⟩ := hs.b6 _ rfl; have r0 := hB6.cell (i := 0) rfl; have r1 := hB6.cell (i := 1) rfl; have r2 := hB6.cell (i := 2) rfl; have r3 := hB6.cell (i := 3) rfl; have f0 := hB6.free 0; have f1 := hB6.free 1; have f2 := hB6.free 2; have f3 := hB6.free 3; go_simp)
                    refine hK.out _ _ (fun he => Bool.noConfusion (show false = true from he)) (fun hE => ?_)
                    clear hK K hE
                    try simp only [Act.put, List.setIfInBounds_toArray, List.set_cons_zero, List.set_cons_succ]
                    refine wpAnyT_ready (rs := [9]) (by kernel_rfl) rfl ?_
                    refine AllT.cons (o := { dst := none, op := Op.store 24 (Operand.tmp 14) (Operand.tmp 84), type := 0, pos := "types.go:339", after := #[⟨7, .data⟩, ⟨5, .data⟩, ⟨8, .chain⟩, ⟨0, .phase⟩, ⟨1, .phase⟩, ⟨2, .phase⟩, ⟨3, .phase⟩, ⟨4, .phase⟩, ⟨5, .phase⟩, ⟨6, .phase⟩, ⟨7, .phase⟩, ⟨8, .phase⟩], guard := none }) rfl (fun K hK => ?_) ?_
                    · (obtain ⟨hB6, -⟩ := hs.b6 _ rfl; obtain ⟨hB7, -⟩ := hs.b7 _ rfl; obtain ⟨-, hK6⟩ := four (show Blk _ _ _ [_, _, _, _] from hB6) (.int .i64 x.kind) (.string x.name) (.int .i64 x.var) (.slice Ax x.args.length cx); have hB7s := hB7.keeps hK6 (fun e => hs.ne _ _ rfl rfl e.symm); have q0 := hB7s.cell (i := 0) rfl; have q1 := hB7s.cell (i := 1) rfl; have q2 := hB7s.cell (i := 2) rfl; have q3 := hB7s.cell (i := 3) rfl; have h0 := hB7s.free 0; have h1 := hB7s.free 1; have h2 := hB7s.free 2; have h3 := hB7s.free 3; go_simp)
                      refine hK.out _ _ (fun he => Bool.noConfusion (show false = true from he)) (fun hE => ?_)
                      clear hK K hE
                      try simp only [Act.put, List.setIfInBounds_toArray, List.set_cons_zero, List.set_cons_succ]
                      refine wpAnyT_done (by kernel_rfl) ?_ _
                      refine NoPanic.normal ?_
                      go_wp2_with fail
                      go_meet
                      exact ⟨_, _, Ax, cx, Ay, cy, rfl, rfl, hs.fin rfl⟩
                    exact AllT.nil
                  exact AllT.nil
                exact AllT.nil
              exact AllT.nil
            refine AllT.cons (o := { dst := some 14, op := Op.alloc 24, type := 0, pos := "types.go:339", after := #[], guard := none }) rfl (fun K hK => ?_) ?_
            · (go_simp; refine name_world ?_; intro wz7 hw; (first | replace hs := hs.box7 hw | replace hs := hs.drew.box7 hw | replace hs := hs.box7d hw | replace hs := hs.drew.box7d hw); (try rw [drew_size] at hs); clear hw)
              refine hK.out _ _ (fun _ => ?_) (fun hE => ?_)
              · exact HQ9.out _ (by first | exact hs.kp | exact hs.drew.kp)
              have hS := hE (by kernel_rfl)
              clear hK K hE
              try simp only [Act.put, List.setIfInBounds_toArray, List.set_cons_zero, List.set_cons_succ]
              refine wpAnyT_ready (rs := [5, 6]) (by kernel_rfl) rfl ?_
              refine AllT.cons (o := { dst := some 84, op := Op.call { callee := Callee.value (Operand.func 9), args := #[Operand.tmp 82, Operand.tmp 83], argTypes := #[25, 24] }, type := 24, pos := "types.go:339", after := #[⟨3, .data⟩, ⟨4, .data⟩, ⟨2, .chain⟩], guard := none }) rfl (fun K hK => ?_) ?_
              · (go_simp; go_at_call 9; with_reducible refine (HA2.out _ (by first | exact hs.kp | exact hs.drew.kp)).mono ?_; rintro e wr ⟨Ay, cy, rfl, hT, hk⟩; (first | replace hs := hs.cally hT hk | replace hs := hs.drew.cally hT hk); clear hT hk; go_wp2_with fail)
                refine hK.out _ _ (fun _ => ?_) (fun hE => ?_)
                · exact HQ9.out _ (by first | exact hs.kp | exact hs.drew.kp)
                have hS := hE (by kernel_rfl)
                clear hK K hE
                try simp only [Act.put, List.setIfInBounds_toArray, List.set_cons_zero, List.set_cons_succ]
                refine wpAnyT_ready (rs := [6]) (by kernel_rfl) rfl ?_
                refine AllT.cons (o := { dst := some 13, op := Op.alloc 24, type := 0, pos := "types.go:339", after := #[], guard := none }) rfl (fun K hK => ?_) ?_
                · (go_simp; refine name_world ?_; intro wz6 hw; (first | replace hs := hs.box6 hw | replace hs := hs.drew.box6 hw | replace hs := hs.box6d hw | replace hs := hs.drew.box6d hw); (try rw [drew_size] at hs); clear hw)
                  refine hK.out _ _ (fun _ => ?_) (fun hE => ?_)
                  · exact HQ9.out _ (by first | exact hs.kp | exact hs.drew.kp)
                  have hS := hE (by kernel_rfl)
                  clear hK K hE
                  try simp only [Act.put, List.setIfInBounds_toArray, List.set_cons_zero, List.set_cons_succ]
                  refine wpAnyT_ready (rs := [8]) (by kernel_rfl) rfl ?_
                  refine AllT.cons (o := { dst := none, op := Op.store 24 (Operand.tmp 13) (Operand.tmp 81), type := 0, pos := "types.go:339", after := #[⟨6, .data⟩, ⟨2, .data⟩, ⟨5, .chain⟩, ⟨0, .phase⟩, ⟨1, .phase⟩, ⟨2, .phase⟩, ⟨3, .textOnly .lateStores⟩, ⟨4, .textOnly .lateStores⟩, ⟨5, .textOnly .lateStoresUnsure⟩, ⟨6, .phase⟩, ⟨7, .phase⟩], guard := none }) rfl (fun K hK => ?_) ?_
                  · (obtain ⟨hB6, -⟩ := hs.b6 _ rfl; have r0 := hB6.cell (i := 0) rfl; have r1 := hB6.cell (i := 1) rfl; have r2 := hB6.cell (i := 2) rfl; have r3 := hB6.cell (i := 3) rfl; have f0 := hB6.free 0; have f1 := hB6.free 1; have f2 := hB6.free 2; have f3 := hB6.free 3; go_simp)
                    refine hK.out _ _ (fun he => Bool.noConfusion (show false = true from he)) (fun hE => ?_)
                    clear hK K hE
                    try simp only [Act.put, List.setIfInBounds_toArray, List.set_cons_zero, List.set_cons_succ]
                    refine wpAnyT_ready (rs := [9]) (by kernel_rfl) rfl ?_
                    refine AllT.cons (o := { dst := none, op := Op.store 24 (Operand.tmp 14) (Operand.tmp 84), type := 0, pos := "types.go:339", after := #[⟨7, .data⟩, ⟨5, .data⟩, ⟨8, .chain⟩, ⟨0, .phase⟩, ⟨1, .phase⟩, ⟨2, .phase⟩, ⟨3, .phase⟩, ⟨4, .phase⟩, ⟨5, .phase⟩, ⟨6, .phase⟩, ⟨7, .phase⟩, ⟨8, .phase⟩], guard := none }) rfl (fun K hK => ?_) ?_
                    · (obtain ⟨hB6, -⟩ := hs.b6 _ rfl; obtain ⟨hB7, -⟩ := hs.b7 _ rfl; obtain ⟨-, hK6⟩ := four (show Blk _ _ _ [_, _, _, _] from hB6) (.int .i64 x.kind) (.string x.name) (.int .i64 x.var) (.slice Ax x.args.length cx); have hB7s := hB7.keeps hK6 (fun e => hs.ne _ _ rfl rfl e.symm); have q0 := hB7s.cell (i := 0) rfl; have q1 := hB7s.cell (i := 1) rfl; have q2 := hB7s.cell (i := 2) rfl; have q3 := hB7s.cell (i := 3) rfl; have h0 := hB7s.free 0; have h1 := hB7s.free 1; have h2 := hB7s.free 2; have h3 := hB7s.free 3; go_simp)
                      refine hK.out _ _ (fun he => Bool.noConfusion (show false = true from he)) (fun hE => ?_)
                      clear hK K hE
                      try simp only [Act.put, List.setIfInBounds_toArray, List.set_cons_zero, List.set_cons_succ]
                      refine wpAnyT_done (by kernel_rfl) ?_ _
                      refine NoPanic.normal ?_
                      go_wp2_with fail
                      go_meet
                      exact ⟨_, _, Ax, cx, Ay, cy, rfl, rfl, hs.fin rfl⟩
                    exact AllT.nil
                  exact AllT.nil
                exact AllT.nil
              refine AllT.cons (o := { dst := some 13, op := Op.alloc 24, type := 0, pos := "types.go:339", after := #[], guard := none }) rfl (fun K hK => ?_) ?_
              · (go_simp; refine name_world ?_; intro wz6 hw; (first | replace hs := hs.box6 hw | replace hs := hs.drew.box6 hw | replace hs := hs.box6d hw | replace hs := hs.drew.box6d hw); (try rw [drew_size] at hs); clear hw)
                refine hK.out _ _ (fun _ => ?_) (fun hE => ?_)
                · exact HQ9.out _ (by first | exact hs.kp | exact hs.drew.kp)
                have hS := hE (by kernel_rfl)
                clear hK K hE
                try simp only [Act.put, List.setIfInBounds_toArray, List.set_cons_zero, List.set_cons_succ]
                refine wpAnyT_ready (rs := [5]) (by kernel_rfl) rfl ?_
                refine AllT.cons (o := { dst := some 84, op := Op.call { callee := Callee.value (Operand.func 9), args := #[Operand.tmp 82, Operand.tmp 83], argTypes := #[25, 24] }, type := 24, pos := "types.go:339", after := #[⟨3, .data⟩, ⟨4, .data⟩, ⟨2, .chain⟩], guard := none }) rfl (fun K hK => ?_) ?_
                · (go_simp; go_at_call 9; with_reducible refine (HA2.out _ (by first | exact hs.kp | exact hs.drew.kp)).mono ?_; rintro e wr ⟨Ay, cy, rfl, hT, hk⟩; (first | replace hs := hs.cally hT hk | replace hs := hs.drew.cally hT hk); clear hT hk; go_wp2_with fail)
                  refine hK.out _ _ (fun _ => ?_) (fun hE => ?_)
                  · exact HQ9.out _ (by first | exact hs.kp | exact hs.drew.kp)
                  have hS := hE (by kernel_rfl)
                  clear hK K hE
                  try simp only [Act.put, List.setIfInBounds_toArray, List.set_cons_zero, List.set_cons_succ]
                  refine wpAnyT_ready (rs := [8]) (by kernel_rfl) rfl ?_
                  refine AllT.cons (o := { dst := none, op := Op.store 24 (Operand.tmp 13) (Operand.tmp 81), type := 0, pos := "types.go:339", after := #[⟨6, .data⟩, ⟨2, .data⟩, ⟨5, .chain⟩, ⟨0, .phase⟩, ⟨1, .phase⟩, ⟨2, .phase⟩, ⟨3, .textOnly .lateStores⟩, ⟨4, .textOnly .lateStores⟩, ⟨5, .textOnly .lateStoresUnsure⟩, ⟨6, .phase⟩, ⟨7, .phase⟩], guard := none }) rfl (fun K hK => ?_) ?_
                  · (obtain ⟨hB6, -⟩ := hs.b6 _ rfl; have r0 := hB6.cell (i := 0) rfl; have r1 := hB6.cell (i := 1) rfl; have r2 := hB6.cell (i := 2) rfl; have r3 := hB6.cell (i := 3) rfl; have f0 := hB6.free 0; have f1 := hB6.free 1; have f2 := hB6.free 2; have f3 := hB6.free 3; go_simp)
                    refine hK.out _ _ (fun he => Bool.noConfusion (show false = true from he)) (fun hE => ?_)
                    clear hK K hE
                    try simp only [Act.put, List.setIfInBounds_toArray, List.set_cons_zero, List.set_cons_succ]
                    refine wpAnyT_ready (rs := [9]) (by kernel_rfl) rfl ?_
                    refine AllT.cons (o := { dst := none, op := Op.store 24 (Operand.tmp 14) (Operand.tmp 84), type := 0, pos := "types.go:339", after := #[⟨7, .data⟩, ⟨5, .data⟩, ⟨8, .chain⟩, ⟨0, .phase⟩, ⟨1, .phase⟩, ⟨2, .phase⟩, ⟨3, .phase⟩, ⟨4, .phase⟩, ⟨5, .phase⟩, ⟨6, .phase⟩, ⟨7, .phase⟩, ⟨8, .phase⟩], guard := none }) rfl (fun K hK => ?_) ?_
                    · (obtain ⟨hB6, -⟩ := hs.b6 _ rfl; obtain ⟨hB7, -⟩ := hs.b7 _ rfl; obtain ⟨-, hK6⟩ := four (show Blk _ _ _ [_, _, _, _] from hB6) (.int .i64 x.kind) (.string x.name) (.int .i64 x.var) (.slice Ax x.args.length cx); have hB7s := hB7.keeps hK6 (fun e => hs.ne _ _ rfl rfl e.symm); have q0 := hB7s.cell (i := 0) rfl; have q1 := hB7s.cell (i := 1) rfl; have q2 := hB7s.cell (i := 2) rfl; have q3 := hB7s.cell (i := 3) rfl; have h0 := hB7s.free 0; have h1 := hB7s.free 1; have h2 := hB7s.free 2; have h3 := hB7s.free 3; go_simp)
                      refine hK.out _ _ (fun he => Bool.noConfusion (show false = true from he)) (fun hE => ?_)
                      clear hK K hE
                      try simp only [Act.put, List.setIfInBounds_toArray, List.set_cons_zero, List.set_cons_succ]
                      refine wpAnyT_done (by kernel_rfl) ?_ _
                      refine NoPanic.normal ?_
                      go_wp2_with fail
                      go_meet
                      exact ⟨_, _, Ax, cx, Ay, cy, rfl, rfl, hs.fin rfl⟩
                    exact AllT.nil
                  exact AllT.nil
                exact AllT.nil
              exact AllT.nil
            exact AllT.nil
          refine AllT.cons (o := { dst := some 13, op := Op.alloc 24, type := 0, pos := "types.go:339", after := #[], guard := none }) rfl (fun K hK => ?_) ?_
          · (go_simp; refine name_world ?_; intro wz6 hw; (first | replace hs := hs.box6 hw | replace hs := hs.drew.box6 hw | replace hs := hs.box6d hw | replace hs := hs.drew.box6d hw); (try rw [drew_size] at hs); clear hw)
            refine hK.out _ _ (fun _ => ?_) (fun hE => ?_)
            · exact HQ9.out _ (by first | exact hs.kp | exact hs.drew.kp)
            have hS := hE (by kernel_rfl)
            clear hK K hE
            try simp only [Act.put, List.setIfInBounds_toArray, List.set_cons_zero, List.set_cons_succ]
            refine wpAnyT_ready (rs := [2, 7]) (by kernel_rfl) rfl ?_
            refine AllT.cons (o := { dst := some 81, op := Op.call { callee := Callee.value (Operand.func 9), args := #[Operand.tmp 79, Operand.tmp 80], argTypes := #[25, 24] }, type := 24, pos := "types.go:339", after := #[⟨0, .data⟩, ⟨1, .data⟩], guard := none }) rfl (fun K hK => ?_) ?_
            · (go_simp; go_at_call 9; with_reducible refine (HA1.out _ (by first | exact hs.kp | exact hs.drew.kp)).mono ?_; rintro e wp ⟨Ax, cx, rfl, hT, hk⟩; (first | replace hs := hs.callx hT hk | replace hs := hs.drew.callx hT hk); clear hT hk; go_wp2_with fail)
              refine hK.out _ _ (fun _ => ?_) (fun hE => ?_)
              · exact HQ9.out _ (by first | exact hs.kp | exact hs.drew.kp)
              have hS := hE (by kernel_rfl)
              clear hK K hE
              try simp only [Act.put, List.setIfInBounds_toArray, List.set_cons_zero, List.set_cons_succ]
              refine wpAnyT_ready (rs := [5, 7]) (by kernel_rfl) rfl ?_
              refine AllT.cons (o := { dst := some 84, op := Op.call { callee := Callee.value (Operand.func 9), args := #[Operand.tmp 82, Operand.tmp 83], argTypes := #[25, 24] }, type := 24, pos := "types.go:339", after := #[⟨3, .data⟩, ⟨4, .data⟩, ⟨2, .chain⟩], guard := none }) rfl (fun K hK => ?_) ?_
              · (go_simp; go_at_call 9; with_reducible refine (HA2.out _ (by first | exact hs.kp | exact hs.drew.kp)).mono ?_; rintro e wr ⟨Ay, cy, rfl, hT, hk⟩; (first | replace hs := hs.cally hT hk | replace hs := hs.drew.cally hT hk); clear hT hk; go_wp2_with fail)
                refine hK.out _ _ (fun _ => ?_) (fun hE => ?_)
                · exact HQ9.out _ (by first | exact hs.kp | exact hs.drew.kp)
                have hS := hE (by kernel_rfl)
                clear hK K hE
                try simp only [Act.put, List.setIfInBounds_toArray, List.set_cons_zero, List.set_cons_succ]
                refine wpAnyT_ready (rs := [7]) (by kernel_rfl) rfl ?_
                refine AllT.cons (o := { dst := some 14, op := Op.alloc 24, type := 0, pos := "types.go:339", after := #[], guard := none }) rfl (fun K hK => ?_) ?_
                · (go_simp; refine name_world ?_; intro wz7 hw; (first | replace hs := hs.box7 hw | replace hs := hs.drew.box7 hw | replace hs := hs.box7d hw | replace hs := hs.drew.box7d hw); (try rw [drew_size] at hs); clear hw)
                  refine hK.out _ _ (fun _ => ?_) (fun hE => ?_)
                  · exact HQ9.out _ (by first | exact hs.kp | exact hs.drew.kp)
                  have hS := hE (by kernel_rfl)
                  clear hK K hE
                  try simp only [Act.put, List.setIfInBounds_toArray, List.set_cons_zero, List.set_cons_succ]
                  refine wpAnyT_ready (rs := [8]) (by kernel_rfl) rfl ?_
                  refine AllT.cons (o := { dst := none, op := Op.store 24 (Operand.tmp 13) (Operand.tmp 81), type := 0, pos := "types.go:339", after := #[⟨6, .data⟩, ⟨2, .data⟩, ⟨5, .chain⟩, ⟨0, .phase⟩, ⟨1, .phase⟩, ⟨2, .phase⟩, ⟨3, .textOnly .lateStores⟩, ⟨4, .textOnly .lateStores⟩, ⟨5, .textOnly .lateStoresUnsure⟩, ⟨6, .phase⟩, ⟨7, .phase⟩], guard := none }) rfl (fun K hK => ?_) ?_
                  · (obtain ⟨hB6, -⟩ := hs.b6 _ rfl; have r0 := hB6.cell (i := 0) rfl; have r1 := hB6.cell (i := 1) rfl; have r2 := hB6.cell (i := 2) rfl; have r3 := hB6.cell (i := 3) rfl; have f0 := hB6.free 0; have f1 := hB6.free 1; have f2 := hB6.free 2; have f3 := hB6.free 3; go_simp)
                    refine hK.out _ _ (fun he => Bool.noConfusion (show false = true from he)) (fun hE => ?_)
                    clear hK K hE
                    try simp only [Act.put, List.setIfInBounds_toArray, List.set_cons_zero, List.set_cons_succ]
                    refine wpAnyT_ready (rs := [9]) (by kernel_rfl) rfl ?_
                    refine AllT.cons (o := { dst := none, op := Op.store 24 (Operand.tmp 14) (Operand.tmp 84), type := 0, pos := "types.go:339", after := #[⟨7, .data⟩, ⟨5, .data⟩, ⟨8, .chain⟩, ⟨0, .phase⟩, ⟨1, .phase⟩, ⟨2, .phase⟩, ⟨3, .phase⟩, ⟨4, .phase⟩, ⟨5, .phase⟩, ⟨6, .phase⟩, ⟨7, .phase⟩, ⟨8, .phase⟩], guard := none }) rfl (fun K hK => ?_) ?_
                    · (obtain ⟨hB6, -⟩ := hs.b6 _ rfl; obtain ⟨hB7, -⟩ := hs.b7 _ rfl; obtain ⟨-, hK6⟩ := four (show Blk _ _ _ [_, _, _, _] from hB6) (.int .i64 x.kind) (.string x.name) (.int .i64 x.var) (.slice Ax x.args.length cx); have hB7s := hB7.keeps hK6 (fun e => hs.ne _ _ rfl rfl e.symm); have q0 := hB7s.cell (i := 0) rfl; have q1 := hB7s.cell (i := 1) rfl; have q2 := hB7s.cell (i := 2) rfl; have q3 := hB7s.cell (i := 3) rfl; have h0 := hB7s.free 0; have h1 := hB7s.free 1; have h2 := hB7s.free 2; have h3 := hB7s.free 3; go_simp)
                      refine hK.out _ _ (fun he => Bool.noConfusion (show false = true from he)) (fun hE => ?_)
                      clear hK K hE
                      try simp only [Act.put, List.setIfInBounds_toArray, List.set_cons_zero, List.set_cons_succ]
                      refine wpAnyT_done (by kernel_rfl) ?_ _
                      refine NoPanic.normal ?_
                      go_wp2_with fail
                      go_meet
                      exact ⟨_, _, Ax, cx, Ay, cy, rfl, rfl, hs.fin rfl⟩
                    exact AllT.nil
                  exact AllT.nil
                exact AllT.nil
              refine AllT.cons (o := { dst := some 14, op := Op.alloc 24, type := 0, pos := "types.go:339", after := #[], guard := none }) rfl (fun K hK => ?_) ?_
              · (go_simp; refine name_world ?_; intro wz7 hw; (first | replace hs := hs.box7 hw | replace hs := hs.drew.box7 hw | replace hs := hs.box7d hw | replace hs := hs.drew.box7d hw); (try rw [drew_size] at hs); clear hw)
                refine hK.out _ _ (fun _ => ?_) (fun hE => ?_)
                · exact HQ9.out _ (by first | exact hs.kp | exact hs.drew.kp)
                have hS := hE (by kernel_rfl)
                clear hK K hE
                try simp only [Act.put, List.setIfInBounds_toArray, List.set_cons_zero, List.set_cons_succ]
                refine wpAnyT_ready (rs := [5]) (by kernel_rfl) rfl ?_
                refine AllT.cons (o := { dst := some 84, op := Op.call { callee := Callee.value (Operand.func 9), args := #[Operand.tmp 82, Operand.tmp 83], argTypes := #[25, 24] }, type := 24, pos := "types.go:339", after := #[⟨3, .data⟩, ⟨4, .data⟩, ⟨2, .chain⟩], guard := none }) rfl (fun K hK => ?_) ?_
                · (go_simp; go_at_call 9; with_reducible refine (HA2.out _ (by first | exact hs.kp | exact hs.drew.kp)).mono ?_; rintro e wr ⟨Ay, cy, rfl, hT, hk⟩; (first | replace hs := hs.cally hT hk | replace hs := hs.drew.cally hT hk); clear hT hk; go_wp2_with fail)
                  refine hK.out _ _ (fun _ => ?_) (fun hE => ?_)
                  · exact HQ9.out _ (by first | exact hs.kp | exact hs.drew.kp)
                  have hS := hE (by kernel_rfl)
                  clear hK K hE
                  try simp only [Act.put, List.setIfInBounds_toArray, List.set_cons_zero, List.set_cons_succ]
                  refine wpAnyT_ready (rs := [8]) (by kernel_rfl) rfl ?_
                  refine AllT.cons (o := { dst := none, op := Op.store 24 (Operand.tmp 13) (Operand.tmp 81), type := 0, pos := "types.go:339", after := #[⟨6, .data⟩, ⟨2, .data⟩, ⟨5, .chain⟩, ⟨0, .phase⟩, ⟨1, .phase⟩, ⟨2, .phase⟩, ⟨3, .textOnly .lateStores⟩, ⟨4, .textOnly .lateStores⟩, ⟨5, .textOnly .lateStoresUnsure⟩, ⟨6, .phase⟩, ⟨7, .phase⟩], guard := none }) rfl (fun K hK => ?_) ?_
                  · (obtain ⟨hB6, -⟩ := hs.b6 _ rfl; have r0 := hB6.cell (i := 0) rfl; have r1 := hB6.cell (i := 1) rfl; have r2 := hB6.cell (i := 2) rfl; have r3 := hB6.cell (i := 3) rfl; have f0 := hB6.free 0; have f1 := hB6.free 1; have f2 := hB6.free 2; have f3 := hB6.free 3; go_simp)
                    refine hK.out _ _ (fun he => Bool.noConfusion (show false = true from he)) (fun hE => ?_)
                    clear hK K hE
                    try simp only [Act.put, List.setIfInBounds_toArray, List.set_cons_zero, List.set_cons_succ]
                    refine wpAnyT_ready (rs := [9]) (by kernel_rfl) rfl ?_
                    refine AllT.cons (o := { dst := none, op := Op.store 24 (Operand.tmp 14) (Operand.tmp 84), type := 0, pos := "types.go:339", after := #[⟨7, .data⟩, ⟨5, .data⟩, ⟨8, .chain⟩, ⟨0, .phase⟩, ⟨1, .phase⟩, ⟨2, .phase⟩, ⟨3, .phase⟩, ⟨4, .phase⟩, ⟨5, .phase⟩, ⟨6, .phase⟩, ⟨7, .phase⟩, ⟨8, .phase⟩], guard := none }) rfl (fun K hK => ?_) ?_
                    · (obtain ⟨hB6, -⟩ := hs.b6 _ rfl; obtain ⟨hB7, -⟩ := hs.b7 _ rfl; obtain ⟨-, hK6⟩ := four (show Blk _ _ _ [_, _, _, _] from hB6) (.int .i64 x.kind) (.string x.name) (.int .i64 x.var) (.slice Ax x.args.length cx); have hB7s := hB7.keeps hK6 (fun e => hs.ne _ _ rfl rfl e.symm); have q0 := hB7s.cell (i := 0) rfl; have q1 := hB7s.cell (i := 1) rfl; have q2 := hB7s.cell (i := 2) rfl; have q3 := hB7s.cell (i := 3) rfl; have h0 := hB7s.free 0; have h1 := hB7s.free 1; have h2 := hB7s.free 2; have h3 := hB7s.free 3; go_simp)
                      refine hK.out _ _ (fun he => Bool.noConfusion (show false = true from he)) (fun hE => ?_)
                      clear hK K hE
                      try simp only [Act.put, List.setIfInBounds_toArray, List.set_cons_zero, List.set_cons_succ]
                      refine wpAnyT_done (by kernel_rfl) ?_ _
                      refine NoPanic.normal ?_
                      go_wp2_with fail
                      go_meet
                      exact ⟨_, _, Ax, cx, Ay, cy, rfl, rfl, hs.fin rfl⟩
                    exact AllT.nil
                  exact AllT.nil
                exact AllT.nil
              exact AllT.nil
            refine AllT.cons (o := { dst := some 14, op := Op.alloc 24, type := 0, pos := "types.go:339", after := #[], guard := none }) rfl (fun K hK => ?_) ?_
            · (go_simp; refine name_world ?_; intro wz7 hw; (first | replace hs := hs.box7 hw | replace hs := hs.drew.box7 hw | replace hs := hs.box7d hw | replace hs := hs.drew.box7d hw); (try rw [drew_size] at hs); clear hw)
              refine hK.out _ _ (fun _ => ?_) (fun hE => ?_)
              · exact HQ9.out _ (by first | exact hs.kp | exact hs.drew.kp)
              have hS := hE (by kernel_rfl)
              clear hK K hE
              try simp only [Act.put, List.setIfInBounds_toArray, List.set_cons_zero, List.set_cons_succ]
              refine wpAnyT_ready (rs := [2]) (by kernel_rfl) rfl ?_
              refine AllT.cons (o := { dst := some 81, op := Op.call { callee := Callee.value (Operand.func 9), args := #[Operand.tmp 79, Operand.tmp 80], argTypes := #[25, 24] }, type := 24, pos := "types.go:339", after := #[⟨0, .data⟩, ⟨1, .data⟩], guard := none }) rfl (fun K hK => ?_) ?_
              · (go_simp; go_at_call 9; with_reducible refine (HA1.out _ (by first | exact hs.kp | exact hs.drew.kp)).mono ?_; rintro e wp ⟨Ax, cx, rfl, hT, hk⟩; (first | replace hs := hs.callx hT hk | replace hs := hs.drew.callx hT hk); clear hT hk; go_wp2_with fail)
                refine hK.out _ _ (fun _ => ?_) (fun hE => ?_)
                · exact HQ9.out _ (by first | exact hs.kp | exact hs.drew.kp)
                have hS := hE (by kernel_rfl)
                clear hK K hE
                try simp only [Act.put, List.setIfInBounds_toArray, List.set_cons_zero, List.set_cons_succ]
                refine wpAnyT_ready (rs := [5]) (by kernel_rfl) rfl ?_
                refine AllT.cons (o := { dst := some 84, op := Op.call { callee := Callee.value (Operand.func 9), args := #[Operand.tmp 82, Operand.tmp 83], argTypes := #[25, 24] }, type := 24, pos := "types.go:339", after := #[⟨3, .data⟩, ⟨4, .data⟩, ⟨2, .chain⟩], guard := none }) rfl (fun K hK => ?_) ?_
                · (go_simp; go_at_call 9; with_reducible refine (HA2.out _ (by first | exact hs.kp | exact hs.drew.kp)).mono ?_; rintro e wr ⟨Ay, cy, rfl, hT, hk⟩; (first | replace hs := hs.cally hT hk | replace hs := hs.drew.cally hT hk); clear hT hk; go_wp2_with fail)
                  refine hK.out _ _ (fun _ => ?_) (fun hE => ?_)
                  · exact HQ9.out _ (by first | exact hs.kp | exact hs.drew.kp)
                  have hS := hE (by kernel_rfl)
                  clear hK K hE
                  try simp only [Act.put, List.setIfInBounds_toArray, List.set_cons_zero, List.set_cons_succ]
                  refine wpAnyT_ready (rs := [8]) (by kernel_rfl) rfl ?_
                  refine AllT.cons (o := { dst := none, op := Op.store 24 (Operand.tmp 13) (Operand.tmp 81), type := 0, pos := "types.go:339", after := #[⟨6, .data⟩, ⟨2, .data⟩, ⟨5, .chain⟩, ⟨0, .phase⟩, ⟨1, .phase⟩, ⟨2, .phase⟩, ⟨3, .textOnly .lateStores⟩, ⟨4, .textOnly .lateStores⟩, ⟨5, .textOnly .lateStoresUnsure⟩, ⟨6, .phase⟩, ⟨7, .phase⟩], guard := none }) rfl (fun K hK => ?_) ?_
                  · (obtain ⟨hB6, -⟩ := hs.b6 _ rfl; have r0 := hB6.cell (i := 0) rfl; have r1 := hB6.cell (i := 1) rfl; have r2 := hB6.cell (i := 2) rfl; have r3 := hB6.cell (i := 3) rfl; have f0 := hB6.free 0; have f1 := hB6.free 1; have f2 := hB6.free 2; have f3 := hB6.free 3; go_simp)
                    refine hK.out _ _ (fun he => Bool.noConfusion (show false = true from he)) (fun hE => ?_)
                    clear hK K hE
                    try simp only [Act.put, List.setIfInBounds_toArray, List.set_cons_zero, List.set_cons_succ]
                    refine wpAnyT_ready (rs := [9]) (by kernel_rfl) rfl ?_
                    refine AllT.cons (o := { dst := none, op := Op.store 24 (Operand.tmp 14) (Operand.tmp 84), type := 0, pos := "types.go:339", after := #[⟨7, .data⟩, ⟨5, .data⟩, ⟨8, .chain⟩, ⟨0, .phase⟩, ⟨1, .phase⟩, ⟨2, .phase⟩, ⟨3, .phase⟩, ⟨4, .phase⟩, ⟨5, .phase⟩, ⟨6, .phase⟩, ⟨7, .phase⟩, ⟨8, .phase⟩], guard := none }) rfl (fun K hK => ?_) ?_
                    · (obtain ⟨hB6, -⟩ := hs.b6 _ rfl; obtain ⟨hB7, -⟩ := hs.b7 _ rfl; obtain ⟨-, hK6⟩ := four (show Blk _ _ _ [_, _, _, _] from hB6) (.int .i64 x.kind) (.string x.name) (.int .i64 x.var) (.slice Ax x.args.length cx); have hB7s := hB7.keeps hK6 (fun e => hs.ne _ _ rfl rfl e.symm); have q0 := hB7s.cell (i := 0) rfl; have q1 := hB7s.cell (i := 1) rfl; have q2 := hB7s.cell (i := 2) rfl; have q3 := hB7s.cell (i := 3) rfl; have h0 := hB7s.free 0; have h1 := hB7s.free 1; have h2 := hB7s.free 2; have h3 := hB7s.free 3; go_simp)
                      refine hK.out _ _ (fun he => Bool.noConfusion (show false = true from he)) (fun hE => ?_)
                      clear hK K hE
                      try simp only [Act.put, List.setIfInBounds_toArray, List.set_cons_zero, List.set_cons_succ]
                      refine wpAnyT_done (by kernel_rfl) ?_ _
                      refine NoPanic.normal ?_
                      go_wp2_with fail
                      go_meet
                      exact ⟨_, _, Ax, cx, Ay, cy, rfl, rfl, hs.fin rfl⟩
                    exact AllT.nil
                  exact AllT.nil
                exact AllT.nil
              exact AllT.nil
            exact AllT.nil
          refine AllT.cons (o := { dst := some 14, op := Op.alloc 24, type := 0, pos := "types.go:339", after := #[], guard := none }) rfl (fun K hK => ?_) ?_
          · (go_simp; refine name_world ?_; intro wz7 hw; (first | replace hs := hs.box7 hw | replace hs := hs.drew.box7 hw | replace hs := hs.box7d hw | replace hs := hs.drew.box7d hw); (try rw [drew_size] at hs); clear hw)
            refine hK.out _ _ (fun _ => ?_) (fun hE => ?_)
            · exact HQ9.out _ (by first | exact hs.kp | exact hs.drew.kp)
            have hS := hE (by kernel_rfl)
            clear hK K hE
            try simp only [Act.put, List.setIfInBounds_toArray, List.set_cons_zero, List.set_cons_succ]
            refine wpAnyT_ready (rs := [2, 6]) (by kernel_rfl) rfl ?_
            refine AllT.cons (o := { dst := some 81, op := Op.call { callee := Callee.value (Operand.func 9), args := #[Operand.tmp 79, Operand.tmp 80], argTypes := #[25, 24] }, type := 24, pos := "types.go:339", after := #[⟨0, .data⟩, ⟨1, .data⟩], guard := none }) rfl (fun K hK => ?_) ?_
            · (go_simp; go_at_call 9; with_reducible refine (HA1.out _ (by first | exact hs.kp | exact hs.drew.kp)).mono ?_; rintro e wp ⟨Ax, cx, rfl, hT, hk⟩; (first | replace hs := hs.callx hT hk | replace hs := hs.drew.callx hT hk); clear hT hk; go_wp2_with fail)
              refine hK.out _ _ (fun _ => ?_) (fun hE => ?_)
              · exact HQ9.out _ (by first | exact hs.kp | exact hs.drew.kp)
              have hS := hE (by kernel_rfl)
              clear hK K hE
              try simp only [Act.put, List.setIfInBounds_toArray, List.set_cons_zero, List.set_cons_succ]
              refine wpAnyT_ready (rs := [5, 6]) (by kernel_rfl) rfl ?_
              refine AllT.cons (o := { dst := some 84, op := Op.call { callee := Callee.value (Operand.func 9), args := #[Operand.tmp 82, Operand.tmp 83], argTypes := #[25, 24] }, type := 24, pos := "types.go:339", after := #[⟨3, .data⟩, ⟨4, .data⟩, ⟨2, .chain⟩], guard := none }) rfl (fun K hK => ?_) ?_
              · (go_simp; go_at_call 9; with_reducible refine (HA2.out _ (by first | exact hs.kp | exact hs.drew.kp)).mono ?_; rintro e wr ⟨Ay, cy, rfl, hT, hk⟩; (first | replace hs := hs.cally hT hk | replace hs := hs.drew.cally hT hk); clear hT hk; go_wp2_with fail)
                refine hK.out _ _ (fun _ => ?_) (fun hE => ?_)
                · exact HQ9.out _ (by first | exact hs.kp | exact hs.drew.kp)
                have hS := hE (by kernel_rfl)
                clear hK K hE
                try simp only [Act.put, List.setIfInBounds_toArray, List.set_cons_zero, List.set_cons_succ]
                refine wpAnyT_ready (rs := [6]) (by kernel_rfl) rfl ?_
                refine AllT.cons (o := { dst := some 13, op := Op.alloc 24, type := 0, pos := "types.go:339", after := #[], guard := none }) rfl (fun K hK => ?_) ?_
                · (go_simp; refine name_world ?_; intro wz6 hw; (first | replace hs := hs.box6 hw | replace hs := hs.drew.box6 hw | replace hs := hs.box6d hw | replace hs := hs.drew.box6d hw); (try rw [drew_size] at hs); clear hw)
                  refine hK.out _ _ (fun _ => ?_) (fun hE => ?_)
                  · exact HQ9.out _ (by first | exact hs.kp | exact hs.drew.kp)
                  have hS := hE (by kernel_rfl)
                  clear hK K hE
                  try simp only [Act.put, List.setIfInBounds_toArray, List.set_cons_zero, List.set_cons_succ]
                  refine wpAnyT_ready (rs := [8]) (by kernel_rfl) rfl ?_
                  refine AllT.cons (o := { dst := none, op := Op.store 24 (Operand.tmp 13) (Operand.tmp 81), type := 0, pos := "types.go:339", after := #[⟨6, .data⟩, ⟨2, .data⟩, ⟨5, .chain⟩, ⟨0, .phase⟩, ⟨1, .phase⟩, ⟨2, .phase⟩, ⟨3, .textOnly .lateStores⟩, ⟨4, .textOnly .lateStores⟩, ⟨5, .textOnly .lateStoresUnsure⟩, ⟨6, .phase⟩, ⟨7, .phase⟩], guard := none }) rfl (fun K hK => ?_) ?_
                  · (obtain ⟨hB6, -⟩ := hs.b6 _ rfl; have r0 := hB6.cell (i := 0) rfl; have r1 := hB6.cell (i := 1) rfl; have r2 := hB6.cell (i := 2) rfl; have r3 := hB6.cell (i := 3) rfl; have f0 := hB6.free 0; have f1 := hB6.free 1; have f2 := hB6.free 2; have f3 := hB6.free 3; go_simp)
                    refine hK.out _ _ (fun he => Bool.noConfusion (show false = true from he)) (fun hE => ?_)
                    clear hK K hE
                    try simp only [Act.put, List.setIfInBounds_toArray, List.set_cons_zero, List.set_cons_succ]
                    refine wpAnyT_ready (rs := [9]) (by kernel_rfl) rfl ?_
                    refine AllT.cons (o := { dst := none, op := Op.store 24 (Operand.tmp 14) (Operand.tmp 84), type := 0, pos := "types.go:339", after := #[⟨7, .data⟩, ⟨5, .data⟩, ⟨8, .chain⟩, ⟨0, .phase⟩, ⟨1, .phase⟩, ⟨2, .phase⟩, ⟨3, .phase⟩, ⟨4, .phase⟩, ⟨5, .phase⟩, ⟨6, .phase⟩, ⟨7, .phase⟩, ⟨8, .phase⟩], guard := none }) rfl (fun K hK => ?_) ?_
                    · (obtain ⟨hB6, -⟩ := hs.b6 _ rfl; obtain ⟨hB7, -⟩ := hs.b7 _ rfl; obtain ⟨-, hK6⟩ := four (show Blk _ _ _ [_, _, _, _] from hB6) (.int .i64 x.kind) (.string x.name) (.int .i64 x.var) (.slice Ax x.args.length cx); have hB7s := hB7.keeps hK6 (fun e => hs.ne _ _ rfl rfl e.symm); have q0 := hB7s.cell (i := 0) rfl; have q1 := hB7s.cell (i := 1) rfl; have q2 := hB7s.cell (i := 2) rfl; have q3 := hB7s.cell (i := 3) rfl; have h0 := hB7s.free 0; have h1 := hB7s.free 1; have h2 := hB7s.free 2; have h3 := hB7s.free 3; go_simp)
                      refine hK.out _ _ (fun he => Bool.noConfusion (show false = true from he)) (fun hE => ?_)
                      clear hK K hE
                      try simp only [Act.put, List.setIfInBounds_toArray, List.set_cons_zero, List.set_cons_succ]
                      refine wpAnyT_done (by kernel_rfl) ?_ _
                      refine NoPanic.normal ?_
                      go_wp2_with fail
                      go_meet
                      exact ⟨_, _, Ax, cx, Ay, cy, rfl, rfl, hs.fin rfl⟩
                    exact AllT.nil
                  exact AllT.nil
                exact AllT.nil
              refine AllT.cons (o := { dst := some 13, op := Op.alloc 24, type := 0, pos := "types.go:339", after := #[], guard := none }) rfl (fun K hK => ?_) ?_
              · (go_simp; refine name_world ?_; intro wz6 hw; (first | replace hs := hs.box6 hw | replace hs := hs.drew.box6 hw | replace hs := hs.box6d hw | replace hs := hs.drew.box6d hw); (try rw [drew_size] at hs); clear hw)
                refine hK.out _ _ (fun _ => ?_) (fun hE => ?_)
                · exact HQ9.out _ (by first | exact hs.kp | exact hs.drew.kp)
                have hS := hE (by kernel_rfl)
                clear hK K hE
                try simp only [Act.put, List.setIfInBounds_toArray, List.set_cons_zero, List.set_cons_succ]
                refine wpAnyT_ready (rs := [5]) (by kernel_rfl) rfl ?_
                refine AllT.cons (o := { dst := some 84, op := Op.call { callee := Callee.value (Operand.func 9), args := #[Operand.tmp 82, Operand.tmp 83], argTypes := #[25, 24] }, type := 24, pos := "types.go:339", after := #[⟨3, .data⟩, ⟨4, .data⟩, ⟨2, .chain⟩], guard := none }) rfl (fun K hK => ?_) ?_
                · (go_simp; go_at_call 9; with_reducible refine (HA2.out _ (by first | exact hs.kp | exact hs.drew.kp)).mono ?_; rintro e wr ⟨Ay, cy, rfl, hT, hk⟩; (first | replace hs := hs.cally hT hk | replace hs := hs.drew.cally hT hk); clear hT hk; go_wp2_with fail)
                  refine hK.out _ _ (fun _ => ?_) (fun hE => ?_)
                  · exact HQ9.out _ (by first | exact hs.kp | exact hs.drew.kp)
                  have hS := hE (by kernel_rfl)
                  clear hK K hE
                  try simp only [Act.put, List.setIfInBounds_toArray, List.set_cons_zero, List.set_cons_succ]
                  refine wpAnyT_ready (rs := [8]) (by kernel_rfl) rfl ?_
                  refine AllT.cons (o := { dst := none, op := Op.store 24 (Operand.tmp 13) (Operand.tmp 81), type := 0, pos := "types.go:339", after := #[⟨6, .data⟩, ⟨2, .data⟩, ⟨5, .chain⟩, ⟨0, .phase⟩, ⟨1, .phase⟩, ⟨2, .phase⟩, ⟨3, .textOnly .lateStores⟩, ⟨4, .textOnly .lateStores⟩, ⟨5, .textOnly .lateStoresUnsure⟩, ⟨6, .phase⟩, ⟨7, .phase⟩], guard := none }) rfl (fun K hK => ?_) ?_
                  · (obtain ⟨hB6, -⟩ := hs.b6 _ rfl; have r0 := hB6.cell (i := 0) rfl; have r1 := hB6.cell (i := 1) rfl; have r2 := hB6.cell (i := 2) rfl; have r3 := hB6.cell (i := 3) rfl; have f0 := hB6.free 0; have f1 := hB6.free 1; have f2 := hB6.free 2; have f3 := hB6.free 3; go_simp)
                    refine hK.out _ _ (fun he => Bool.noConfusion (show false = true from he)) (fun hE => ?_)
                    clear hK K hE
                    try simp only [Act.put, List.setIfInBounds_toArray, List.set_cons_zero, List.set_cons_succ]
                    refine wpAnyT_ready (rs := [9]) (by kernel_rfl) rfl ?_
                    refine AllT.cons (o := { dst := none, op := Op.store 24 (Operand.tmp 14) (Operand.tmp 84), type := 0, pos := "types.go:339", after := #[⟨7, .data⟩, ⟨5, .data⟩, ⟨8, .chain⟩, ⟨0, .phase⟩, ⟨1, .phase⟩, ⟨2, .phase⟩, ⟨3, .phase⟩, ⟨4, .phase⟩, ⟨5, .phase⟩, ⟨6, .phase⟩, ⟨7, .phase⟩, ⟨8, .phase⟩], guard := none }) rfl (fun K hK => ?_) ?_
                    · (obtain ⟨hB6, -⟩ := hs.b6 _ rfl; obtain ⟨hB7, -⟩ := hs.b7 _ rfl; obtain ⟨-, hK6⟩ := four (show Blk _ _ _ [_, _, _, _] from hB6) (.int .i64 x.kind) (.string x.name) (.int .i64 x.var) (.slice Ax x.args.length cx); have hB7s := hB7.keeps hK6 (fun e => hs.ne _ _ rfl rfl e.symm); have q0 := hB7s.cell (i := 0) rfl; have q1 := hB7s.cell (i := 1) rfl; have q2 := hB7s.cell (i := 2) rfl; have q3 := hB7s.cell (i := 3) rfl; have h0 := hB7s.free 0; have h1 := hB7s.free 1; have h2 := hB7s.free 2; have h3 := hB7s.free 3; go_simp)
                      refine hK.out _ _ (fun he => Bool.noConfusion (show false = true from he)) (fun hE => ?_)
                      clear hK K hE
                      try simp only [Act.put, List.setIfInBounds_toArray, List.set_cons_zero, List.set_cons_succ]
                      refine wpAnyT_done (by kernel_rfl) ?_ _
                      refine NoPanic.normal ?_
                      go_wp2_with fail
                      go_meet
                      exact ⟨_, _, Ax, cx, Ay, cy, rfl, rfl, hs.fin rfl⟩
                    exact AllT.nil
                  exact AllT.nil
                exact AllT.nil
              exact AllT.nil
            refine AllT.cons (o := { dst := some 13, op := Op.alloc 24, type := 0, pos := "types.go:339", after := #[], guard := none }) rfl (fun K hK => ?_) ?_
            · (go_simp; refine name_world ?_; intro wz6 hw; (first | replace hs := hs.box6 hw | replace hs := hs.drew.box6 hw | replace hs := hs.box6d hw | replace hs := hs.drew.box6d hw); (try rw [drew_size] at hs); clear hw)
              refine hK.out _ _ (fun _ => ?_) (fun hE => ?_)
              · exact HQ9.out _ (by first | exact hs.kp | exact hs.drew.kp)
              have hS := hE (by kernel_rfl)
              clear hK K hE
              try simp only [Act.put, List.setIfInBounds_toArray, List.set_cons_zero, List.set_cons_succ]
              refine wpAnyT_ready (rs := [2]) (by kernel_rfl) rfl ?_
              refine AllT.cons (o := { dst := some 81, op := Op.call { callee := Callee.value (Operand.func 9), args := #[Operand.tmp 79, Operand.tmp 80], argTypes := #[25, 24] }, type := 24, pos := "types.go:339", after := #[⟨0, .data⟩, ⟨1, .data⟩], guard := none }) rfl (fun K hK => ?_) ?_
              · (go_simp; go_at_call 9; with_reducible refine (HA1.out _ (by first | exact hs.kp | exact hs.drew.kp)).mono ?_; rintro e wp ⟨Ax, cx, rfl, hT, hk⟩; (first | replace hs := hs.callx hT hk | replace hs := hs.drew.callx hT hk); clear hT hk; go_wp2_with fail)
                refine hK.out _ _ (fun _ => ?_) (fun hE => ?_)
                · exact HQ9.out _ (by first | exact hs.kp | exact hs.drew.kp)
                have hS := hE (by kernel_rfl)
                clear hK K hE
                try simp only [Act.put, List.setIfInBounds_toArray, List.set_cons_zero, List.set_cons_succ]
                refine wpAnyT_ready (rs := [5]) (by kernel_rfl) rfl ?_
                refine AllT.cons (o := { dst := some 84, op := Op.call { callee := Callee.value (Operand.func 9), args := #[Operand.tmp 82, Operand.tmp 83], argTypes := #[25, 24] }, type := 24, pos := "types.go:339", after := #[⟨3, .data⟩, ⟨4, .data⟩, ⟨2, .chain⟩], guard := none }) rfl (fun K hK => ?_) ?_
                · (go_simp; go_at_call 9; with_reducible refine (HA2.out _ (by first | exact hs.kp | exact hs.drew.kp)).mono ?_; rintro e wr ⟨Ay, cy, rfl, hT, hk⟩; (first | replace hs := hs.cally hT hk | replace hs := hs.drew.cally hT hk); clear hT hk; go_wp2_with fail)
                  refine hK.out _ _ (fun _ => ?_) (fun hE => ?_)
                  · exact HQ9.out _ (by first | exact hs.kp | exact hs.drew.kp)
                  have hS := hE (by kernel_rfl)
                  clear hK K hE
                  try simp only [Act.put, List.setIfInBounds_toArray, List.set_cons_zero, List.set_cons_succ]
                  refine wpAnyT_ready (rs := [8]) (by kernel_rfl) rfl ?_
                  refine AllT.cons (o := { dst := none, op := Op.store 24 (Operand.tmp 13) (Operand.tmp 81), type := 0, pos := "types.go:339", after := #[⟨6, .data⟩, ⟨2, .data⟩, ⟨5, .chain⟩, ⟨0, .phase⟩, ⟨1, .phase⟩, ⟨2, .phase⟩, ⟨3, .textOnly .lateStores⟩, ⟨4, .textOnly .lateStores⟩, ⟨5, .textOnly .lateStoresUnsure⟩, ⟨6, .phase⟩, ⟨7, .phase⟩], guard := none }) rfl (fun K hK => ?_) ?_
                  · (obtain ⟨hB6, -⟩ := hs.b6 _ rfl; have r0 := hB6.cell (i := 0) rfl; have r1 := hB6.cell (i := 1) rfl; have r2 := hB6.cell (i := 2) rfl; have r3 := hB6.cell (i := 3) rfl; have f0 := hB6.free 0; have f1 := hB6.free 1; have f2 := hB6.free 2; have f3 := hB6.free 3; go_simp)
                    refine hK.out _ _ (fun he => Bool.noConfusion (show false = true from he)) (fun hE => ?_)
                    clear hK K hE
                    try simp only [Act.put, List.setIfInBounds_toArray, List.set_cons_zero, List.set_cons_succ]
                    refine wpAnyT_ready (rs := [9]) (by kernel_rfl) rfl ?_
                    refine AllT.cons (o := { dst := none, op := Op.store 24 (Operand.tmp 14) (Operand.tmp 84), type := 0, pos := "types.go:339", after := #[⟨7, .data⟩, ⟨5, .data⟩, ⟨8, .chain⟩, ⟨0, .phase⟩, ⟨1, .phase⟩, ⟨2, .phase⟩, ⟨3, .phase⟩, ⟨4, .phase⟩, ⟨5, .phase⟩, ⟨6, .phase⟩, ⟨7, .phase⟩, ⟨8, .phase⟩], guard := none }) rfl (fun K hK => ?_) ?_
                    · (obtain ⟨hB6, -⟩ := hs.b6 _ rfl; obtain ⟨hB7, -⟩ := hs.b7 _ rfl; obtain ⟨-, hK6⟩ := four (show Blk _ _ _ [_, _, _, _] from hB6) (.int .i64 x.kind) (.string x.name) (.int .i64 x.var) (.slice Ax x.args.length cx); have hB7s := hB7.keeps hK6 (fun e => hs.ne _ _ rfl rfl e.symm); have q0 := hB7s.cell (i := 0) rfl; have q1 := hB7s.cell (i := 1) rfl; have q2 := hB7s.cell (i := 2) rfl; have q3 := hB7s.cell (i := 3) rfl; have h0 := hB7s.free 0; have h1 := hB7s.free 1; have h2 := hB7s.free 2; have h3 := hB7s.free 3; go_simp)
                      refine hK.out _ _ (fun he => Bool.noConfusion (show false = true from he)) (fun hE => ?_)
                      clear hK K hE
                      try simp only [Act.put, List.setIfInBounds_toArray, List.set_cons_zero, List.set_cons_succ]
                      refine wpAnyT_done (by kernel_rfl) ?_ _
                      refine NoPanic.normal ?_
                      go_wp2_with fail
                      go_meet
                      exact ⟨_, _, Ax, cx, Ay, cy, rfl, rfl, hs.fin rfl⟩
                    exact AllT.nil
                  exact AllT.nil
                exact AllT.nil
              exact AllT.nil
            exact AllT.nil
          exact AllT.nil
        refine AllT.cons (o := { dst := some 13, op := Op.alloc 24, type := 0, pos := "types.go:339", after := #[], guard := none }) rfl (fun K hK => ?_) ?_
        · (go_simp; refine name_world ?_; intro wz6 hw; (first | replace hs := hs.box6 hw | replace hs := hs.drew.box6 hw | replace hs := hs.box6d hw | replace hs := hs.drew.box6d hw); (try rw [drew_size] at hs); clear hw)
          refine hK.out _ _ (fun _ => ?_) (fun hE => ?_)
          · exact HQ9.out _ (by first | exact hs.kp | exact hs.drew.kp)
          have hS := hE (by kernel_rfl)
          clear hK K hE
          try simp only [Act.put, List.setIfInBounds_toArray, List.set_cons_zero, List.set_cons_succ]
          refine wpAnyT_ready (rs := [2, 4, 7]) (by kernel_rfl) rfl ?_
          refine AllT.cons (o := { dst := some 81, op := Op.call { callee := Callee.value (Operand.func 9), args := #[Operand.tmp 79, Operand.tmp 80], argTypes := #[25, 24] }, type := 24, pos := "types.go:339", after := #[⟨0, .data⟩, ⟨1, .data⟩], guard := none }) rfl (fun K hK => ?_) ?_
          · (go_simp; go_at_call 9; with_reducible refine (HA1.out _ (by first | exact hs.kp | exact hs.drew.kp)).mono ?_; rintro e wp ⟨Ax, cx, rfl, hT, hk⟩; (first | replace hs := hs.callx hT hk | replace hs := hs.drew.callx hT hk); clear hT hk; go_wp2_with fail)
            refine hK.out _ _ (fun _ => ?_) (fun hE => ?_)
            · exact HQ9.out _ (by first | exact hs.kp | exact hs.drew.kp)
            have hS := hE (by kernel_rfl)
            clear hK K hE
            try simp only [Act.put, List.setIfInBounds_toArray, List.set_cons_zero, List.set_cons_succ]
            refine wpAnyT_ready (rs := [4, 7]) (by kernel_rfl) rfl ?_
            refine AllT.cons (o := { dst := some 83, op := Op.load 24 (Operand.tmp 2), type := 24, pos := "types.go:339", after := #[], guard := none }) rfl (fun K hK => ?_) ?_
            · go_simp
              refine hK.out _ _ (fun _ => ?_) (fun hE => ?_)
              · exact HQ9.out _ (by first | exact hs.kp | exact hs.drew.kp)
              have hS := hE (by kernel_rfl)
              clear hK K hE
              try simp only [Act.put, List.setIfInBounds_toArray, List.set_cons_zero, List.set_cons_succ]
              refine wpAnyT_ready (rs := [5, 7]) (by kernel_rfl) rfl ?_
              refine AllT.cons (o := { dst := some 84, op := Op.call { callee := Callee.value (Operand.func 9), args := #[Operand.tmp 82, Operand.tmp 83], argTypes := #[25, 24] }, type := 24, pos := "types.go:339", after := #[⟨3, .data⟩, ⟨4, .data⟩, ⟨2, .chain⟩], guard := none }) rfl (fun K hK => ?_) ?_
              · (go_simp; go_at_call 9; with_reducible refine (HA2.out _ (by first | exact hs.kp | exact hs.drew.kp)).mono ?_; rintro e wr ⟨Ay, cy, rfl, hT, hk⟩; (first | replace hs := hs.cally hT hk | replace hs := hs.drew.cally hT hk); clear hT hk; go_wp2_with fail)
                refine hK.out _ _ (fun _ => ?_) (fun hE => ?_)
                · exact HQ9.out _ (by first | exact hs.kp | exact hs.drew.kp)
                have hS := hE (by kernel_rfl)
                clear hK K hE
                try simp only [Act.put, List.setIfInBounds_toArray, List.set_cons_zero, List.set_cons_succ]
                refine wpAnyT_ready (rs := [7]) (by kernel_rfl) rfl ?_
                refine AllT.cons (o := { dst := some 14, op := Op.alloc 24, type := 0, pos := "types.go:339", after := #[], guard := none }) rfl (fun K hK => ?_) ?_
                · (go_simp; refine name_world ?_; intro wz7 hw; (first | replace hs := hs.box7 hw | replace hs := hs.drew.box7 hw | replace hs := hs.box7d hw | replace hs := hs.drew.box7d hw); (try rw [drew_size] at hs); clear hw)
                  refine hK.out _ _ (fun _ => ?_) (fun hE => ?_)
                  · exact HQ9.out _ (by first | exact hs.kp | exact hs.drew.kp)
                  have hS := hE (by kernel_rfl)
                  clear hK K hE
                  try simp only [Act.put, List.setIfInBounds_toArray, List.set_cons_zero, List.set_cons_succ]
                  refine wpAnyT_ready (rs := [8]) (by kernel_rfl) rfl ?_
                  refine AllT.cons (o := { dst := none, op := Op.store 24 (Operand.tmp 13) (Operand.tmp 81), type := 0, pos := "types.go:339", after := #[⟨6, .data⟩, ⟨2, .data⟩, ⟨5, .chain⟩, ⟨0, .phase⟩, ⟨1, .phase⟩, ⟨2, .phase⟩, ⟨3, .textOnly .lateStores⟩, ⟨4, .textOnly .lateStores⟩, ⟨5, .textOnly .lateStoresUnsure⟩, ⟨6, .phase⟩, ⟨7, .phase⟩], guard := none }) rfl (fun K hK => ?_) ?_
                  · (obtain ⟨hB6, -⟩ := hs.b6 _ rfl; have r0 := hB6.cell (i := 0) rfl; have r1 := hB6.cell (i := 1) rfl; have r2 := hB6.cell (i := 2) rfl; have r3 := hB6.cell (i := 3) rfl; have f0 := hB6.free 0; have f1 := hB6.free 1; have f2 := hB6.free 2; have f3 := hB6.free 3; go_simp)
                    refine hK.out _ _ (fun he => Bool.noConfusion (show false = true from he)) (fun hE => ?_)
                    clear hK K hE
                    try simp only [Act.put, List.setIfInBounds_toArray, List.set_cons_zero, List.set_cons_succ]
                    refine wpAnyT_ready (rs := [9]) (by kernel_rfl) rfl ?_
                    refine AllT.cons (o := { dst := none, op := Op.store 24 (Operand.tmp 14) (Operand.tmp 84), type := 0, pos := "types.go:339", after := #[⟨7, .data⟩, ⟨5, .data⟩, ⟨8, .chain⟩, ⟨0, .phase⟩, ⟨1, .phase⟩, ⟨2, .phase⟩, ⟨3, .phase⟩, ⟨4, .phase⟩, ⟨5, .phase⟩, ⟨6, .phase⟩, ⟨7, .phase⟩, ⟨8, .phase⟩], guard := none }) rfl (fun K hK => ?_) ?_
                    · (obtain ⟨hB6, -⟩ := hs.b6 _ rfl; obtain ⟨hB7, -⟩ := hs.b7 _ rfl; obtain ⟨-, hK6⟩ := four (show Blk _ _ _ [_, _, _, _] from hB6) (.int .i64 x.kind) (.string x.name) (.int .i64 x.var) (.slice Ax x.args.length cx); have hB7s := hB7.keeps hK6 (fun e => hs.ne _ _ rfl rfl e.symm); have q0 := hB7s.cell (i := 0) rfl; have q1 := hB7s.cell (i := 1) rfl; have q2 := hB7s.cell (i := 2) rfl; have q3 := hB7s.cell (i := 3) rfl; have h0 := hB7s.free 0; have h1 := hB7s.free 1; have h2 := hB7s.free 2; have h3 := hB7s.free 3; go_simp)
                      refine hK.out _ _ (fun he => Bool.noConfusion (show false = true from he)) (fun hE => ?_)
                      clear hK K hE
                      try simp only [Act.put, List.setIfInBounds_toArray, List.set_cons_zero, List.set_cons_succ]
                      refine wpAnyT_done (by kernel_rfl) ?_ _
                      refine NoPanic.normal ?_
                      go_wp2_with fail
                      go_meet
                      exact ⟨_, _, Ax, cx, Ay, cy, rfl, rfl, hs.fin rfl⟩
                    exact AllT.nil
                  exact AllT.nil
                exact AllT.nil
              refine AllT.cons (o := { dst := some 14, op := Op.alloc 24, type := 0, pos := "types.go:339", after := #[], guard := none }) rfl (fun K hK => ?_) ?_
              · (go_simp; refine name_world ?_; intro wz7 hw; (first | replace hs := hs.box7 hw | replace hs := hs.drew.box7 hw | replace hs := hs.box7d hw | replace hs := hs.drew.box7d hw); (try rw [drew_size] at hs); clear hw)
                refine hK.out _ _ (fun _ => ?_) (fun hE => ?_)
                · exact HQ9.out _ (by first | exact hs.kp | exact hs.drew.kp)
                have hS := hE (by kernel_rfl)
                clear hK K hE
                try simp only [Act.put, List.setIfInBounds_toArray, List.set_cons_zero, List.set_cons_succ]
                refine wpAnyT_ready (rs := [5]) (by kernel_rfl) rfl ?_
                refine AllT.cons (o := { dst := some 84, op := Op.call { callee := Callee.value (Operand.func 9), args := #[Operand.tmp 82, Operand.tmp 83], argTypes := #[25, 24] }, type := 24, pos := "types.go:339", after := #[⟨3, .data⟩, ⟨4, .data⟩, ⟨2, .chain⟩], guard := none }) rfl (fun K hK => ?_) ?_
                · (go_simp; go_at_call 9; with_reducible refine (HA2.out _ (by first | exact hs.kp | exact hs.drew.kp)).mono ?_; rintro e wr ⟨Ay, cy, rfl, hT, hk⟩; (first | replace hs := hs.cally hT hk | replace hs := hs.drew.cally hT hk); clear hT hk; go_wp2_with fail)
                  refine hK.out _ _ (fun _ => ?_) (fun hE => ?_)
                  · exact HQ9.out _ (by first | exact hs.kp | exact hs.drew.kp)
                  have hS := hE (by kernel_rfl)
                  clear hK K hE
                  try simp only [Act.put, List.setIfInBounds_toArray, List.set_cons_zero, List.set_cons_succ]
                  refine wpAnyT_ready (rs := [8]) (by kernel_rfl) rfl ?_
                  refine AllT.cons (o := { dst := none, op := Op.store 24 (Operand.tmp 13) (Operand.tmp 81), type := 0, pos := "types.go:339", after := #[⟨6, .data⟩, ⟨2, .data⟩, ⟨5, .chain⟩, ⟨0, .phase⟩, ⟨1, .phase⟩, ⟨2, .phase⟩, ⟨3, .textOnly .lateStores⟩, ⟨4, .textOnly .lateStores⟩, ⟨5, .textOnly .lateStoresUnsure⟩, ⟨6, .phase⟩, ⟨7, .phase⟩], guard := none }) rfl (fun K hK => ?_) ?_
                  · (obtain ⟨hB6, -⟩ := hs.b6 _ rfl; have r0 := hB6.cell (i := 0) rfl; have r1 := hB6.cell (i := 1) rfl; have r2 := hB6.cell (i := 2) rfl; have r3 := hB6.cell (i := 3) rfl; have f0 := hB6.free 0; have f1 := hB6.free 1; have f2 := hB6.free 2; have f3 := hB6.free 3; go_simp)
                    refine hK.out _ _ (fun he => Bool.noConfusion (show false = true from he)) (fun hE => ?_)
                    clear hK K hE
                    try simp only [Act.put, List.setIfInBounds_toArray, List.set_cons_zero, List.set_cons_succ]
                    refine wpAnyT_ready (rs := [9]) (by kernel_rfl) rfl ?_
                    refine AllT.cons (o := { dst := none, op := Op.store 24 (Operand.tmp 14) (Operand.tmp 84), type := 0, pos := "types.go:339", after := #[⟨7, .data⟩, ⟨5, .data⟩, ⟨8, .chain⟩, ⟨0, .phase⟩, ⟨1, .phase⟩, ⟨2, .phase⟩, ⟨3, .phase⟩, ⟨4, .phase⟩, ⟨5, .phase⟩, ⟨6, .phase⟩, ⟨7, .phase⟩, ⟨8, .phase⟩], guard := none }) rfl (fun K hK => ?_) ?_
                    · (obtain ⟨hB6, -⟩ := hs.b6 _ rfl; obtain ⟨hB7, -⟩ := hs.b7 _ rfl; obtain ⟨-, hK6⟩ := four (show Blk _ _ _ [_, _, _, _] from hB6) (.int .i64 x.kind) (.string x.name) (.int .i64 x.var) (.slice Ax x.args.length cx); have hB7s := hB7.keeps hK6 (fun e => hs.ne _ _ rfl rfl e.symm); have q0 := hB7s.cell (i := 0) rfl; have q1 := hB7s.cell (i := 1) rfl; have q2 := hB7s.cell (i := 2) rfl; have q3 := hB7s.cell (i := 3) rfl; have h0 := hB7s.free 0; have h1 := hB7s.free 1; have h2 := hB7s.free 2; have h3 := hB7s.free 3; go_simp)
                      refine hK.out _ _ (fun he => Bool.noConfusion (show false = true from he)) (fun hE => ?_)
                      clear hK K hE
                      try simp only [Act.put, List.setIfInBounds_toArray, List.set_cons_zero, List.set_cons_succ]
                      refine wpAnyT_done (by kernel_rfl) ?_ _
                      refine NoPanic.normal ?_
                      go_wp2_with fail
                      go_meet
                      exact ⟨_, _, Ax, cx, Ay, cy, rfl, rfl, hs.fin rfl⟩
                    exact AllT.nil
                  exact AllT.nil
                exact AllT.nil
              exact AllT.nil
            refine AllT.cons (o := { dst := some 14, op := Op.alloc 24, type := 0, pos := "types.go:339", after := #[], guard := none }) rfl (fun K hK => ?_) ?_
            · (go_simp; refine name_world ?_; intro wz7 hw; (first | replace hs := hs.box7 hw | replace hs := hs.drew.box7 hw | replace hs := hs.box7d hw | replace hs := hs.drew.box7d hw); (try rw [drew_size] at hs); clear hw)
              refine hK.out _ _ (fun _ => ?_) (fun hE => ?_)
              · exact HQ9.out _ (by first | exact hs.kp | exact hs.drew.kp)
              have hS := hE (by kernel_rfl)
              clear hK K hE
              try simp only [Act.put, List.setIfInBounds_toArray, List.set_cons_zero, List.set_cons_succ]
              refine wpAnyT_ready (rs := [4]) (by kernel_rfl) rfl ?_
              refine AllT.cons (o := { dst := some 83, op := Op.load 24 (Operand.tmp 2), type := 24, pos := "types.go:339", after := #[], guard := none }) rfl (fun K hK => ?_) ?_
              · go_simp
                refine hK.out _ _ (fun _ => ?_) (fun hE => ?_)
                · exact HQ9.out _ (by first | exact hs.kp | exact hs.drew.kp)
                have hS := hE (by kernel_rfl)
                clear hK K hE
                try simp only [Act.put, List.setIfInBounds_toArray, List.set_cons_zero, List.set_cons_succ]
                refine wpAnyT_ready (rs := [5]) (by kernel_rfl) rfl ?_
                refine AllT.cons (o := { dst := some 84, op := Op.call { callee := Callee.value (Operand.func 9), args := #[Operand.tmp 82, Operand.tmp 83], argTypes := #[25, 24] }, type := 24, pos := "types.go:339", after := #[⟨3, .data⟩, ⟨4, .data⟩, ⟨2, .chain⟩], guard := none }) rfl (fun K hK => ?_) ?_
                · (go_simp; go_at_call 9; with_reducible refine (HA2.out _ (by first | exact hs.kp | exact hs.drew.kp)).mono ?_; rintro e wr ⟨Ay, cy, rfl, hT, hk⟩; (first | replace hs := hs.cally hT hk | replace hs := hs.drew.cally hT hk); clear hT hk; go_wp2_with fail)
                  refine hK.out _ _ (fun _ => ?_) (fun hE => ?_)
                  · exact HQ9.out _ (by first | exact hs.kp | exact hs.drew.kp)
                  have hS := hE (by kernel_rfl)
                  clear hK K hE
                  try simp only [Act.put, List.setIfInBounds_toArray, List.set_cons_zero, List.set_cons_succ]
                  refine wpAnyT_ready (rs := [8]) (by kernel_rfl) rfl ?_
                  refine AllT.cons (o := { dst := none, op := Op.store 24 (Operand.tmp 13) (Operand.tmp 81), type := 0, pos := "types.go:339", after := #[⟨6, .data⟩, ⟨2, .data⟩, ⟨5, .chain⟩, ⟨0, .phase⟩, ⟨1, .phase⟩, ⟨2, .phase⟩, ⟨3, .textOnly .lateStores⟩, ⟨4, .textOnly .lateStores⟩, ⟨5, .textOnly .lateStoresUnsure⟩, ⟨6, .phase⟩, ⟨7, .phase⟩], guard := none }) rfl (fun K hK => ?_) ?_
                  · (obtain ⟨hB6, -⟩ := hs.b6 _ rfl; have r0 := hB6.cell (i := 0) rfl; have r1 := hB6.cell (i := 1) rfl; have r2 := hB6.cell (i := 2) rfl; have r3 := hB6.cell (i := 3) rfl; have f0 := hB6.free 0; have f1 := hB6.free 1; have f2 := hB6.free 2; have f3 := hB6.free 3; go_simp)
                    refine hK.out _ _ (fun he => Bool.noConfusion (show false = true from he)) (fun hE => ?_)
                    clear hK K hE
                    try simp only [Act.put, List.setIfInBounds_toArray, List.set_cons_zero, List.set_cons_succ]
                    refine wpAnyT_ready (rs := [9]) (by kernel_rfl) rfl ?_
                    refine AllT.cons (o := { dst := none, op := Op.store 24 (Operand.tmp 14) (Operand.tmp 84), type := 0, pos := "types.go:339", after := #[⟨7, .data⟩, ⟨5, .data⟩, ⟨8, .chain⟩, ⟨0, .phase⟩, ⟨1, .phase⟩, ⟨2, .phase⟩, ⟨3, .phase⟩, ⟨4, .phase⟩, ⟨5, .phase⟩, ⟨6, .phase⟩, ⟨7, .phase⟩, ⟨8, .phase⟩], guard := none }) rfl (fun K hK => ?_) ?_
                    · (obtain ⟨hB6, -⟩ := hs.b6 _ rfl; obtain ⟨hB7, -⟩ := hs.b7 _ rfl; obtain ⟨-, hK6⟩ := four (show Blk _ _ _ [_, _, _, _] from hB6) (.int .i64 x.kind) (.string x.name) (.int .i64 x.var) (.slice Ax x.args.length cx); have hB7s := hB7.keeps hK6 (fun e => hs.ne _ _ rfl rfl e.symm); have q0 := hB7s.cell (i := 0) rfl; have q1 := hB7s.cell (i := 1) rfl; have q2 := hB7s.cell (i := 2) rfl; have q3 := hB7s.cell (i := 3) rfl; have h0 := hB7s.free 0; have h1 := hB7s.free 1; have h2 := hB7s.free 2; have h3 := hB7s.free 3; go_simp)
                      refine hK.out _ _ (fun he => Bool.noConfusion (show false = true from he)) (fun hE => ?_)
                      clear hK K hE
                      try simp only [Act.put, List.setIfInBounds_toArray, List.set_cons_zero, List.set_cons_succ]
                      refine wpAnyT_done (by kernel_rfl) ?_ _
                      refine NoPanic.normal ?_
                      go_wp2_with fail
                      go_meet
                      exact ⟨_, _, Ax, cx, Ay, cy, rfl, rfl, hs.fin rfl⟩
                    exact AllT.nil
                  exact AllT.nil
                exact AllT.nil
              exact AllT.nil
            exact AllT.nil
          refine AllT.cons (o := { dst := some 83, op := Op.load 24 (Operand.tmp 2), type := 24, pos := "types.go:339", after := #[], guard := none }) rfl (fun K hK => ?_) ?_
          · go_simp
            refine hK.out _ _ (fun _ => ?_) (fun hE => ?_)
            · exact HQ9.out _ (by first | exact hs.kp | exact hs.drew.kp)
            have hS := hE (by kernel_rfl)
            clear hK K hE
            try simp only [Act.put, List.setIfInBounds_toArray, List.set_cons_zero, List.set_cons_succ]
            refine wpAnyT_ready (rs := [2, 7]) (by kernel_rfl) rfl ?_
            refine AllT.cons (o := { dst := some 81, op := Op.call { callee := Callee.value (Operand.func 9), args := #[Operand.tmp 79, Operand.tmp 80], argTypes := #[25, 24] }, type := 24, pos := "types.go:339", after := #[⟨0, .data⟩, ⟨1, .data⟩], guard := none }) rfl (fun K hK => ?_) ?_
            · (go_simp; go_at_call 9; with_reducible refine (HA1.out _ (by first | exact hs.kp | exact hs.drew.kp)).mono ?_; rintro e wp ⟨Ax, cx, rfl, hT, hk⟩; (first | replace hs := hs.callx hT hk | replace hs := hs.drew.callx hT hk); clear hT hk; go_wp2_with fail)
              refine hK.out _ _ (fun _ => ?_) (fun hE => ?_)
              · exact HQ9.out _ (by first | exact hs.kp | exact hs.drew.kp)
              have hS := hE (by kernel_rfl)
              clear hK K hE
              try simp only [Act.put, List.setIfInBounds_toArray, List.set_cons_zero, List.set_cons_succ]
              refine wpAnyT_ready (rs := [5, 7]) (by kernel_rfl) rfl ?_
              refine AllT.cons (o := { dst := some 84, op := Op.call { callee := Callee.value (Operand.func 9), args := #[Operand.tmp 82, Operand.tmp 83], argTypes := #[25, 24] }, type := 24, pos := "types.go:339", after := #[⟨3, .data⟩, ⟨4, .data⟩, ⟨2, .chain⟩], guard := none }) rfl (fun K hK => ?_) ?_
              · (go_simp; go_at_call 9; with_reducible refine (HA2.out _ (by first | exact hs.kp | exact hs.drew.kp)).mono ?_; rintro e wr ⟨Ay, cy, rfl, hT, hk⟩; (first | replace hs := hs.cally hT hk | replace hs := hs.drew.cally hT hk); clear hT hk; go_wp2_with fail)
                refine hK.out _ _ (fun _ => ?_) (fun hE => ?_)
                · exact HQ9.out _ (by first | exact hs.kp | exact hs.drew.kp)
                have hS := hE (by kernel_rfl)
                clear hK K hE
                try simp only [Act.put, List.setIfInBounds_toArray, List.set_cons_zero, List.set_cons_succ]
                refine wpAnyT_ready (rs := [7]) (by kernel_rfl) rfl ?_
                refine AllT.cons (o := { dst := some 14, op := Op.alloc 24, type := 0, pos := "types.go:339", after := #[], guard := none }) rfl (fun K hK => ?_) ?_
                · (go_simp; refine name_world ?_; intro wz7 hw; (first | replace hs := hs.box7 hw | replace hs := hs.drew.box7 hw | replace hs := hs.box7d hw | replace hs := hs.drew.box7d hw); (try rw [drew_size] at hs); clear hw)
                  refine hK.out _ _ (fun _ => ?_) (fun hE => ?_)
                  · exact HQ9.out _ (by first | exact hs.kp | exact hs.drew.kp)
                  have hS := hE (by kernel_rfl)
                  clear hK K hE
                  try simp only [Act.put, List.setIfInBounds_toArray, List.set_cons_zero, List.set_cons_succ]
                  refine wpAnyT_ready (rs := [8]) (by kernel_rfl) rfl ?_
                  refine AllT.cons (o := { dst := none, op := Op.store 24 (Operand.tmp 13) (Operand.tmp 81), type := 0, pos := "types.go:339", after := #[⟨6, .data⟩, ⟨2, .data⟩, ⟨5, .chain⟩, ⟨0, .phase⟩, ⟨1, .phase⟩, ⟨2, .phase⟩, ⟨3, .textOnly .lateStores⟩, ⟨4, .textOnly .lateStores⟩, ⟨5, .textOnly .lateStoresUnsure⟩, ⟨6, .phase⟩, ⟨7, .phase⟩], guard := none }) rfl (fun K hK => ?_) ?_
                  · (obtain ⟨hB6, -⟩ := hs.b6 _ rfl; have r0 := hB6.cell (i := 0) rfl; have r1 := hB6.cell (i := 1) rfl; have r2 := hB6.cell (i := 2) rfl; have r3 := hB6.cell (i := 3) rfl; have f0 := hB6.free 0; have f1 := hB6.free 1; have f2 := hB6.free 2; have f3 := hB6.free 3; go_simp)
                    refine hK.out _ _ (fun he => Bool.noConfusion (show false = true from he)) (fun hE => ?_)
                    clear hK K hE
                    try simp only [Act.put, List.setIfInBounds_toArray, List.set_cons_zero, List.set_cons_succ]
                    refine wpAnyT_ready (rs := [9]) (by kernel_rfl) rfl ?_
                    refine AllT.cons (o := { dst := none, op := Op.store 24 (Operand.tmp 14) (Operand.tmp 84), type := 0, pos := "types.go:339", after := #[⟨7, .data⟩, ⟨5, .data⟩, ⟨8, .chain⟩, ⟨0, .phase⟩, ⟨1, .phase⟩, ⟨2, .phase⟩, ⟨3, .phase⟩, ⟨4, .phase⟩, ⟨5, .phase⟩, ⟨6, .phase⟩, ⟨7, .phase⟩, ⟨8, .phase⟩], guard := none }) rfl (fun K hK => ?_) ?_
                    · (obtain ⟨hB6, -⟩ := hs.b6 _ rfl; obtain ⟨hB7, -⟩ := hs.b7 _ rfl; obtain ⟨-, hK6⟩ := four (show Blk _ _ _ [_, _, _, _] from hB6) (.int .i64 x.kind) (.string x.name) (.int .i64 x.var) (.slice Ax x.args.length cx); have hB7s := hB7.keeps hK6 (fun e => hs.ne _ _ rfl rfl e.symm); have q0 := hB7s.cell (i := 0) rfl; have q1 := hB7s.cell (i := 1) rfl; have q2 := hB7s.cell (i := 2) rfl; have q3 := hB7s.cell (i := 3) rfl; have h0 := hB7s.free 0; have h1 := hB7s.free 1; have h2 := hB7s.free 2; have h3 := hB7s.free 3; go_simp)
                      refine hK.out _ _ (fun he => Bool.noConfusion (show false = true from he)) (fun hE => ?_)
                      clear hK K hE
                      try simp only [Act.put, List.setIfInBounds_toArray, List.set_cons_zero, List.set_cons_succ]
                      refine wpAnyT_done (by kernel_rfl) ?_ _
                      refine NoPanic.normal ?_
                      go_wp2_with fail
                      go_meet
                      exact ⟨_, _, Ax, cx, Ay, cy, rfl, rfl, hs.fin rfl⟩
                    exact AllT.nil
                  exact AllT.nil
                exact AllT.nil
              refine AllT.cons (o := { dst := some 14, op := Op.alloc 24, type := 0, pos := "types.go:339", after := #[], guard := none }) rfl (fun K hK => ?_) ?_
              · (go_simp; refine name_world ?_; intro wz7 hw; (first | replace hs := hs.box7 hw | replace hs := hs.drew.box7 hw | replace hs := hs.box7d hw | replace hs := hs.drew.box7d hw); (try rw [drew_size] at hs); clear hw)
                refine hK.out _ _ (fun _ => ?_) (fun hE => ?_)
                · exact HQ9.out _ (by first | exact hs.kp | exact hs.drew.kp)
                have hS := hE (by kernel_rfl)
                clear hK K hE
                try simp only [Act.put, List.setIfInBounds_toArray, List.set_cons_zero, List.set_cons_succ]
                refine wpAnyT_ready (rs := [5]) (by kernel_rfl) rfl ?_
                refine AllT.cons (o := { dst := some 84, op := Op.call { callee := Callee.value (Operand.func 9), args := #[Operand.tmp 82, Operand.tmp 83], argTypes := #[25, 24] }, type := 24, pos := "types.go:339", after := #[⟨3, .data⟩, ⟨4, .data⟩, ⟨2, .chain⟩], guard := none }) rfl (fun K hK => ?_) ?_
                · (go_simp; go_at_call 9; with_reducible refine (HA2.out _ (by first | exact hs.kp | exact hs.drew.kp)).mono ?_; rintro e wr ⟨Ay, cy, rfl, hT, hk⟩; (first | replace hs := hs.cally hT hk | replace hs := hs.drew.cally hT hk); clear hT hk; go_wp2_with fail)
                  refine hK.out _ _ (fun _ => ?_) (fun hE => ?_)
                  · exact HQ9.out _ (by first | exact hs.kp | exact hs.drew.kp)
                  have hS := hE (by kernel_rfl)
                  clear hK K hE
                  try simp only [Act.put, List.setIfInBounds_toArray, List.set_cons_zero, List.set_cons_succ]
                  refine wpAnyT_ready (rs := [8]) (by kernel_rfl) rfl ?_
                  refine AllT.cons (o := { dst := none, op := Op.store 24 (Operand.tmp 13) (Operand.tmp 81), type := 0, pos := "types.go:339", after := #[⟨6, .data⟩, ⟨2, .data⟩, ⟨5, .chain⟩, ⟨0, .phase⟩, ⟨1, .phase⟩, ⟨2, .phase⟩, ⟨3, .textOnly .lateStores⟩, ⟨4, .textOnly .lateStores⟩, ⟨5, .textOnly .lateStoresUnsure⟩, ⟨6, .phase⟩, ⟨7, .phase⟩], guard := none }) rfl (fun K hK => ?_) ?_
                  · (obtain ⟨hB6, -⟩ := hs.b6 _ rfl; have r0 := hB6.cell (i := 0) rfl; have r1 := hB6.cell (i := 1) rfl; have r2 := hB6.cell (i := 2) rfl; have r3 := hB6.cell (i := 3) rfl; have f0 := hB6.free 0; have f1 := hB6.free 1; have f2 := hB6.free 2; have f3 := hB6.free 3; go_simp)
                    refine hK.out _ _ (fun he => Bool.noConfusion (show false = true from he)) (fun hE => ?_)
                    clear hK K hE
                    try simp only [Act.put, List.setIfInBounds_toArray, List.set_cons_zero, List.set_cons_succ]
                    refine wpAnyT_ready (rs := [9]) (by kernel_rfl) rfl ?_
                    refine AllT.cons (o := { dst := none, op := Op.store 24 (Operand.tmp 14) (Operand.tmp 84), type := 0, pos := "types.go:339", after := #[⟨7, .data⟩, ⟨5, .data⟩, ⟨8, .chain⟩, ⟨0, .phase⟩, ⟨1, .phase⟩, ⟨2, .phase⟩, ⟨3, .phase⟩, ⟨4, .phase⟩, ⟨5, .phase⟩, ⟨6, .phase⟩, ⟨7, .phase⟩, ⟨8, .phase⟩], guard := none }) rfl (fun K hK => ?_) ?_
                    · (obtain ⟨hB6, -⟩ := hs.b6 _ rfl; obtain ⟨hB7, -⟩ := hs.b7 _ rfl; obtain ⟨-, hK6⟩ := four (show Blk _ _ _ [_, _, _, _] from hB6) (.int .i64 x.kind) (.string x.name) (.int .i64 x.var) (.slice Ax x.args.length cx); have hB7s := hB7.keeps hK6 (fun e => hs.ne _ _ rfl rfl e.symm); have q0 := hB7s.cell (i := 0) rfl; have q1 := hB7s.cell (i := 1) rfl; have q2 := hB7s.cell (i := 2) rfl; have q3 := hB7s.cell (i := 3) rfl; have h0 := hB7s.free 0; have h1 := hB7s.free 1; have h2 := hB7s.free 2; have h3 := hB7s.free 3; go_simp)
                      refine hK.out _ _ (fun he => Bool.noConfusion (show false = true from he)) (fun hE => ?_)
                      clear hK K hE
                      try simp only [Act.put, List.setIfInBounds_toArray, List.set_cons_zero, List.set_cons_succ]
                      refine wpAnyT_done (by kernel_rfl) ?_ _
                      refine NoPanic.normal ?_
                      go_wp2_with fail
                      go_meet
                      exact ⟨_, _, Ax, cx, Ay, cy, rfl, rfl, hs.fin rfl⟩
                    exact AllT.nil
                  exact AllT.nil
                exact AllT.nil
              exact AllT.nil
            refine AllT.cons (o := { dst := some 14, op := Op.alloc 24, type := 0, pos := "types.go:339", after := #[], guard := none }) rfl (fun K hK => ?_) ?_
            · (go_simp; refine name_world ?_; intro wz7 hw; (first | replace hs := hs.box7 hw | replace hs := hs.drew.box7 hw | replace hs := hs.box7d hw | replace hs := hs.drew.box7d hw); (try rw [drew_size] at hs); clear hw)
              refine hK.out _ _ (fun _ => ?_) (fun hE => ?_)
              · exact HQ9.out _ (by first | exact hs.kp | exact hs.drew.kp)
              have hS := hE (by kernel_rfl)
              clear hK K hE
              try simp only [Act.put, List.setIfInBounds_toArray, List.set_cons_zero, List.set_cons_succ]
              refine wpAnyT_ready (rs := [2]) (by kernel_rfl) rfl ?_
              refine AllT.cons (o := { dst := some 81, op := Op.call { callee := Callee.value (Operand.func 9), args := #[Operand.tmp 79, Operand.tmp 80], argTypes := #[25, 24] }, type := 24, pos := "types.go:339", after := #[⟨0, .data⟩, ⟨1, .data⟩], guard := none }) rfl (fun K hK => ?_) ?_
              · (go_simp; go_at_call 9; with_reducible refine (HA1.out _ (by first | exact hs.kp | exact hs.drew.kp)).mono ?_; rintro e wp ⟨Ax, cx, rfl, hT, hk⟩; (first | replace hs := hs.callx hT hk | replace hs := hs.drew.callx hT hk); clear hT hk; go_wp2_with fail)
                refine hK.out _ _ (fun _ => ?_) (fun hE => ?_)
                · exact HQ9.out _ (by first | exact hs.kp | exact hs.drew.kp)
                have hS := hE (by kernel_rfl)
                clear hK K hE
                try simp only [Act.put, List.setIfInBounds_toArray, List.set_cons_zero, List.set_cons_succ]
                refine wpAnyT_ready (rs := [5]) (by kernel_rfl) rfl ?_
                refine AllT.cons (o := { dst := some 84, op := Op.call { callee := Callee.value (Operand.func 9), args := #[Operand.tmp 82, Operand.tmp 83], argTypes := #[25, 24] }, type := 24, pos := "types.go:339", after := #[⟨3, .data⟩, ⟨4, .data⟩, ⟨2, .chain⟩], guard := none }) rfl (fun K hK => ?_) ?_
                · (go_simp; go_at_call 9; with_reducible refine (HA2.out _ (by first | exact hs.kp | exact hs.drew.kp)).mono ?_; rintro e wr ⟨Ay, cy, rfl, hT, hk⟩; (first | replace hs := hs.cally hT hk | replace hs := hs.drew.cally hT hk); clear hT hk; go_wp2_with fail)
                  refine hK.out _ _ (fun _ => ?_) (fun hE => ?_)
                  · exact HQ9.out _ (by first | exact hs.kp | exact hs.drew.kp)
                  have hS := hE (by kernel_rfl)
                  clear hK K hE
                  try simp only [Act.put, List.setIfInBounds_toArray, List.set_cons_zero, List.set_cons_succ]
                  refine wpAnyT_ready (rs := [8]) (by kernel_rfl) rfl ?_
                  refine AllT.cons (o := { dst := none, op := Op.store 24 (Operand.tmp 13) (Operand.tmp 81), type := 0, pos := "types.go:339", after := #[⟨6, .data⟩, ⟨2, .data⟩, ⟨5, .chain⟩, ⟨0, .phase⟩, ⟨1, .phase⟩, ⟨2, .phase⟩, ⟨3, .textOnly .lateStores⟩, ⟨4, .textOnly .lateStores⟩, ⟨5, .textOnly .lateStoresUnsure⟩, ⟨6, .phase⟩, ⟨7, .phase⟩], guard := none }) rfl (fun K hK => ?_) ?_
                  · (obtain ⟨hB6, -⟩ := hs.b6 _ rfl; have r0 := hB6.cell (i := 0) rfl; have r1 := hB6.cell (i := 1) rfl; have r2 := hB6.cell (i := 2) rfl; have r3 := hB6.cell (i := 3) rfl; have f0 := hB6.free 0; have f1 := hB6.free 1; have f2 := hB6.free 2; have f3 := hB6.free 3; go_simp)
                    refine hK.out _ _ (fun he => Bool.noConfusion (show false = true from he)) (fun hE => ?_)
                    clear hK K hE
                    try simp only [Act.put, List.setIfInBounds_toArray, List.set_cons_zero, List.set_cons_succ]
                    refine wpAnyT_ready (rs := [9]) (by kernel_rfl) rfl ?_
                    refine AllT.cons (o := { dst := none, op := Op.store 24 (Operand.tmp 14) (Operand.tmp 84), type := 0, pos := "types.go:339", after := #[⟨7, .data⟩, ⟨5, .data⟩, ⟨8, .chain⟩, ⟨0, .phase⟩, ⟨1, .phase⟩, ⟨2, .phase⟩, ⟨3, .phase⟩, ⟨4, .phase⟩, ⟨5, .phase⟩, ⟨6, .phase⟩, ⟨7, .phase⟩, ⟨8, .phase⟩], guard := none }) rfl (fun K hK => ?_) ?_
                    · (obtain ⟨hB6, -⟩ := hs.b6 _ rfl; obtain ⟨hB7, -⟩ := hs.b7 _ rfl; obtain ⟨-, hK6⟩ := four (show Blk _ _ _ [_, _, _, _] from hB6) (.int .i64 x.kind) (.string x.name) (.int .i64 x.var) (.slice Ax x.args.length cx); have hB7s := hB7.keeps hK6 (fun e => hs.ne _ _ rfl rfl e.symm); have q0 := hB7s.cell (i := 0) rfl; have q1 := hB7s.cell (i := 1) rfl; have q2 := hB7s.cell (i := 2) rfl; have q3 := hB7s.cell (i := 3) rfl; have h0 := hB7s.free 0; have h1 := hB7s.free 1; have h2 := hB7s.free 2; have h3 := hB7s.free 3; go_simp)
                      refine hK.out _ _ (fun he => Bool.noConfusion (show false = true from he)) (fun hE => ?_)
                      clear hK K hE
                      try simp only [Act.put, List.setIfInBounds_toArray, List.set_cons_zero, List.set_cons_succ]
                      refine wpAnyT_done (by kernel_rfl) ?_ _
                      refine NoPanic.normal ?_
                      go_wp2_with fail
                      go_meet
                      exact ⟨_, _, Ax, cx, Ay, cy, rfl, rfl, hs.fin rfl⟩
                    exact AllT.nil
                  exact AllT.nil
                exact AllT.nil
              exact AllT.nil
            exact AllT.nil
          refine AllT.cons (o := { dst := some 14, op := Op.alloc 24, type := 0, pos := "types.go:339", after := #[], guard := none }) rfl (fun K hK => ?_) ?_
          · (go_simp; refine name_world ?_; intro wz7 hw; (first | replace hs := hs.box7 hw | replace hs := hs.drew.box7 hw | replace hs := hs.box7d hw | replace hs := hs.drew.box7d hw); (try rw [drew_size] at hs); clear hw)
            refine hK.out _ _ (fun _ => ?_) (fun hE => ?_)
            · exact HQ9.out _ (by first | exact hs.kp | exact hs.drew.kp)
            have hS := hE (by kernel_rfl)
            clear hK K hE
            try simp only [Act.put, List.setIfInBounds_toArray, List.set_cons_zero, List.set_cons_succ]
            refine wpAnyT_ready (rs := [2, 4]) (by kernel_rfl) rfl ?_
            refine AllT.cons (o := { dst := some 81, op := Op.call { callee := Callee.value (Operand.func 9), args := #[Operand.tmp 79, Operand.tmp 80], argTypes := #[25, 24] }, type := 24, pos := "types.go:339", after := #[⟨0, .data⟩, ⟨1, .data⟩], guard := none }) rfl (fun K hK => ?_) ?_
            · (go_simp; go_at_call 9; with_reducible refine (HA1.out _ (by first | exact hs.kp | exact hs.drew.kp)).mono ?_; rintro e wp ⟨Ax, cx, rfl, hT, hk⟩; (first | replace hs := hs.callx hT hk | replace hs := hs.drew.callx hT hk); clear hT hk; go_wp2_with fail)
              refine hK.out _ _ (fun _ => ?_) (fun hE => ?_)
              · exact HQ9.out _ (by first | exact hs.kp | exact hs.drew.kp)
              have hS := hE (by kernel_rfl)
              clear hK K hE
              try simp only [Act.put, List.setIfInBounds_toArray, List.set_cons_zero, List.set_cons_succ]
              refine wpAnyT_ready (rs := [4]) (by kernel_rfl) rfl ?_
              refine AllT.cons (o := { dst := some 83, op := Op.load 24 (Operand.tmp 2), type := 24, pos := "types.go:339", after := #[], guard := none }) rfl (fun K hK => ?_) ?_
              · go_simp
                refine hK.out _ _ (fun _ => ?_) (fun hE => ?_)
                · exact HQ9.out _ (by first | exact hs.kp | exact hs.drew.kp)
                have hS := hE (by kernel_rfl)
                clear hK K hE
                try simp only [Act.put, List.setIfInBounds_toArray, List.set_cons_zero, List.set_cons_succ]
                refine wpAnyT_ready (rs := [5]) (by kernel_rfl) rfl ?_
                refine AllT.cons (o := { dst := some 84, op := Op.call { callee := Callee.value (Operand.func 9), args := #[Operand.tmp 82, Operand.tmp 83], argTypes := #[25, 24] }, type := 24, pos := "types.go:339", after := #[⟨3, .data⟩, ⟨4, .data⟩, ⟨2, .chain⟩], guard := none }) rfl (fun K hK => ?_) ?_
                · (go_simp; go_at_call 9; with_reducible refine (HA2.out _ (by first | exact hs.kp | exact hs.drew.kp)).mono ?_; rintro e wr ⟨Ay, cy, rfl, hT, hk⟩; (first | replace hs := hs.cally hT hk | replace hs := hs.drew.cally hT hk); clear hT hk; go_wp2_with fail)
                  refine hK.out _ _ (fun _ => ?_) (fun hE => ?_)
                  · exact HQ9.out _ (by first | exact hs.kp | exact hs.drew.kp)
                  have hS := hE (by kernel_rfl)
                  clear hK K hE
                  try simp only [Act.put, List.setIfInBounds_toArray, List.set_cons_zero, List.set_cons_succ]
                  refine wpAnyT_ready (rs := [8]) (by kernel_rfl) rfl ?_
                  refine AllT.cons (o := { dst := none, op := Op.store 24 (Operand.tmp 13) (Operand.tmp 81), type := 0, pos := "types.go:339", after := #[⟨6, .data⟩, ⟨2, .data⟩, ⟨5, .chain⟩, ⟨0, .phase⟩, ⟨1, .phase⟩, ⟨2, .phase⟩, ⟨3, .textOnly .lateStores⟩, ⟨4, .textOnly .lateStores⟩, ⟨5, .textOnly .lateStoresUnsure⟩, ⟨6, .phase⟩, ⟨7, .phase⟩], guard := none }) rfl (fun K hK => ?_) ?_
                  · (obtain ⟨hB6, -⟩ := hs.b6 _ rfl; have r0 := hB6.cell (i := 0) rfl; have r1 := hB6.cell (i := 1) rfl; have r2 := hB6.cell (i := 2) rfl; have r3 := hB6.cell (i := 3) rfl; have f0 := hB6.free 0; have f1 := hB6.free 1; have f2 := hB6.free 2; have f3 := hB6.free 3; go_simp)
                    refine hK.out _ _ (fun he => Bool.noConfusion (show false = true from he)) (fun hE => ?_)
                    clear hK K hE
                    try simp only [Act.put, List.setIfInBounds_toArray, List.set_cons_zero, List.set_cons_succ]
                    refine wpAnyT_ready (rs := [9]) (by kernel_rfl) rfl ?_
                    refine AllT.cons (o := { dst := none, op := Op.store 24 (Operand.tmp 14) (Operand.tmp 84), type := 0, pos := "types.go:339", after := #[⟨7, .data⟩, ⟨5, .data⟩, ⟨8, .chain⟩, ⟨0, .phase⟩, ⟨1, .phase⟩, ⟨2, .phase⟩, ⟨3, .phase⟩, ⟨4, .phase⟩, ⟨5, .phase⟩, ⟨6, .phase⟩, ⟨7, .phase⟩, ⟨8, .phase⟩], guard := none }) rfl (fun K hK => ?_) ?_
                    · (obtain ⟨hB6, -⟩ := hs.b6 _ rfl; obtain ⟨hB7, -⟩ := hs.b7 _ rfl; obtain ⟨-, hK6⟩ := four (show Blk _ _ _ [_, _, _, _] from hB6) (.int .i64 x.kind) (.string x.name) (.int .i64 x.var) (.slice Ax x.args.length cx); have hB7s := hB7.keeps hK6 (fun e => hs.ne _ _ rfl rfl e.symm); have q0 := hB7s.cell (i := 0) rfl; have q1 := hB7s.cell (i := 1) rfl; have q2 := hB7s.cell (i := 2) rfl; have q3 := hB7s.cell (i := 3) rfl; have h0 := hB7s.free 0; have h1 := hB7s.free 1; have h2 := hB7s.free 2; have h3 := hB7s.free 3; go_simp)
                      refine hK.out _ _ (fun he => Bool.noConfusion (show false = true from he)) (fun hE => ?_)
                      clear hK K hE
                      try simp only [Act.put, List.setIfInBounds_toArray, List.set_cons_zero, List.set_cons_succ]
                      refine wpAnyT_done (by kernel_rfl) ?_ _
                      refine NoPanic.normal ?_
                      go_wp2_with fail
                      go_meet
                      exact ⟨_, _, Ax, cx, Ay, cy, rfl, rfl, hs.fin rfl⟩
                    exact AllT.nil
                  exact AllT.nil
                exact AllT.nil
              exact AllT.nil
            refine AllT.cons (o := { dst := some 83, op := Op.load 24 (Operand.tmp 2), type := 24, pos := "types.go:339", after := #[], guard := none }) rfl (fun K hK => ?_) ?_
            · go_simp
              refine hK.out _ _ (fun _ => ?_) (fun hE => ?_)
              · exact HQ9.out _ (by first | exact hs.kp | exact hs.drew.kp)
              have hS := hE (by kernel_rfl)
              clear hK K hE
              try simp only [Act.put, List.setIfInBounds_toArray, List.set_cons_zero, List.set_cons_succ]
              refine wpAnyT_ready (rs := [2]) (by kernel_rfl) rfl ?_
              refine AllT.cons (o := { dst := some 81, op := Op.call { callee := Callee.value (Operand.func 9), args := #[Operand.tmp 79, Operand.tmp 80], argTypes := #[25, 24] }, type := 24, pos := "types.go:339", after := #[⟨0, .data⟩, ⟨1, .data⟩], guard := none }) rfl (fun K hK => ?_) ?_
              · (go_simp; go_at_call 9; with_reducible refine (HA1.out _ (by first | exact hs.kp | exact hs.drew.kp)).mono ?_; rintro e wp ⟨Ax, cx, rfl, hT, hk⟩; (first | replace hs := hs.callx hT hk | replace hs := hs.drew.callx hT hk); clear hT hk; go_wp2_with fail)
                refine hK.out _ _ (fun _ => ?_) (fun hE => ?_)
                · exact HQ9.out _ (by first | exact hs.kp | exact hs.drew.kp)
                have hS := hE (by kernel_rfl)
                clear hK K hE
                try simp only [Act.put, List.setIfInBounds_toArray, List.set_cons_zero, List.set_cons_succ]
                refine wpAnyT_ready (rs := [5]) (by kernel_rfl) rfl ?_
                refine AllT.cons (o := { dst := some 84, op := Op.call { callee := Callee.value (Operand.func 9), args := #[Operand.tmp 82, Operand.tmp 83], argTypes := #[25, 24] }, type := 24, pos := "types.go:339", after := #[⟨3, .data⟩, ⟨4, .data⟩, ⟨2, .chain⟩], guard := none }) rfl (fun K hK => ?_) ?_
                · (go_simp; go_at_call 9; with_reducible refine (HA2.out _ (by first | exact hs.kp | exact hs.drew.kp)).mono ?_; rintro e wr ⟨Ay, cy, rfl, hT, hk⟩; (first | replace hs := hs.cally hT hk | replace hs := hs.drew.cally hT hk); clear hT hk; go_wp2_with fail)
                  refine hK.out _ _ (fun _ => ?_) (fun hE => ?_)
                  · exact HQ9.out _ (by first | exact hs.kp | exact hs.drew.kp)
                  have hS := hE (by kernel_rfl)
                  clear hK K hE
                  try simp only [Act.put, List.setIfInBounds_toArray, List.set_cons_zero, List.set_cons_succ]
                  refine wpAnyT_ready (rs := [8]) (by kernel_rfl) rfl ?_
                  refine AllT.cons (o := { dst := none, op := Op.store 24 (Operand.tmp 13) (Operand.tmp 81), type := 0, pos := "types.go:339", after := #[⟨6, .data⟩, ⟨2, .data⟩, ⟨5, .chain⟩, ⟨0, .phase⟩, ⟨1, .phase⟩, ⟨2, .phase⟩, ⟨3, .textOnly .lateStores⟩, ⟨4, .textOnly .lateStores⟩, ⟨5, .textOnly .lateStoresUnsure⟩, ⟨6, .phase⟩, ⟨7, .phase⟩], guard := none }) rfl (fun K hK => ?_) ?_
                  · (obtain ⟨hB6, -⟩ := hs.b6 _ rfl; have r0 := hB6.cell (i := 0) rfl; have r1 := hB6.cell (i := 1) rfl; have r2 := hB6.cell (i := 2) rfl; have r3 := hB6.cell (i := 3) rfl; have f0 := hB6.free 0; have f1 := hB6.free 1; have f2 := hB6.free 2; have f3 := hB6.free 3; go_simp)
                    refine hK.out _ _ (fun he => Bool.noConfusion (show false = true from he)) (fun hE => ?_)
                    clear hK K hE
                    try simp only [Act.put, List.setIfInBounds_toArray, List.set_cons_zero, List.set_cons_succ]
                    refine wpAnyT_ready (rs := [9]) (by kernel_rfl) rfl ?_
                    refine AllT.cons (o := { dst := none, op := Op.store 24 (Operand.tmp 14) (Operand.tmp 84), type := 0, pos := "types.go:339", after := #[⟨7, .data⟩, ⟨5, .data⟩, ⟨8, .chain⟩, ⟨0, .phase⟩, ⟨1, .phase⟩, ⟨2, .phase⟩, ⟨3, .phase⟩, ⟨4, .phase⟩, ⟨5, .phase⟩, ⟨6, .phase⟩, ⟨7, .phase⟩, ⟨8, .phase⟩], guard := none }) rfl (fun K hK => ?_) ?_
                    · (obtain ⟨hB6, -⟩ := hs.b6 _ rfl; obtain ⟨hB7, -⟩ := hs.b7 _ rfl; obtain ⟨-, hK6⟩ := four (show Blk _ _ _ [_, _, _, _] from hB6) (.int .i64 x.kind) (.string x.name) (.int .i64 x.var) (.slice Ax x.args.length cx); have hB7s := hB7.keeps hK6 (fun e => hs.ne _ _ rfl rfl e.symm); have q0 := hB7s.cell (i := 0) rfl; have q1 := hB7s.cell (i := 1) rfl; have q2 := hB7s.cell (i := 2) rfl; have q3 := hB7s.cell (i := 3) rfl; have h0 := hB7s.free 0; have h1 := hB7s.free 1; have h2 := hB7s.free 2; have h3 := hB7s.free 3; go_simp)
                      refine hK.out _ _ (fun he => Bool.noConfusion (show false = true from he)) (fun hE => ?_)
                      clear hK K hE
                      try simp only [Act.put, List.setIfInBounds_toArray, List.set_cons_zero, List.set_cons_succ]
                      refine wpAnyT_done (by kernel_rfl) ?_ _
                      refine NoPanic.normal ?_
                      go_wp2_with fail
                      go_meet
                      exact ⟨_, _, Ax, cx, Ay, cy, rfl, rfl, hs.fin rfl⟩
                    exact AllT.nil
                  exact AllT.nil
                exact AllT.nil
              exact AllT.nil
            exact AllT.nil
          exact AllT.nil
        refine AllT.cons (o := { dst := some 14, op := Op.alloc 24, type := 0, pos := "types.go:339", after := #[], guard := none }) rfl (fun K hK => ?_) ?_
        · (go_simp; refine name_world ?_; intro wz7 hw; (first | replace hs := hs.box7 hw | replace hs := hs.drew.box7 hw | replace hs := hs.box7d hw | replace hs := hs.drew.box7d hw); (try rw [drew_size] at hs); clear hw)
          refine hK.out _ _ (fun _ => ?_) (fun hE => ?_)
          · exact HQ9.out _ (by first | exact hs.kp | exact hs.drew.kp)
          have hS := hE (by kernel_rfl)
          clear hK K hE
          try simp only [Act.put, List.setIfInBounds_toArray, List.set_cons_zero, List.set_cons_succ]
          refine wpAnyT_ready (rs := [2, 4, 6]) (by kernel_rfl) rfl ?_
          refine AllT.cons (o := { dst := some 81, op := Op.call { callee := Callee.value (Operand.func 9), args := #[Operand.tmp 79, Operand.tmp 80], argTypes := #[25, 24] }, type := 24, pos := "types.go:339", after := #[⟨0, .data⟩, ⟨1, .data⟩], guard := none }) rfl (fun K hK => ?_) ?_
          · (go_simp; go_at_call 9; with_reducible refine (HA1.out _ (by first | exact hs.kp | exact hs.drew.kp)).mono ?_; rintro e wp ⟨Ax, cx, rfl, hT, hk⟩; (first | replace hs := hs.callx hT hk | replace hs := hs.drew.callx hT hk); clear hT hk; go_wp2_with fail)
            refine hK.out _ _ (fun _ => ?_) (fun hE => ?_)
            · exact HQ9.out _ (by first | exact hs.kp | exact hs.drew.kp)
            have hS := hE (by kernel_rfl)
            clear hK K hE
            try simp only [Act.put, List.setIfInBounds_toArray, List.set_cons_zero, List.set_cons_succ]
            refine wpAnyT_ready (rs := [4, 6]) (by kernel_rfl) rfl ?_
            refine AllT.cons (o := { dst := some 83, op := Op.load 24 (Operand.tmp 2), type := 24, pos := "types.go:339", after := #[], guard := none }) rfl (fun K hK => ?_) ?_
            · go_simp
              refine hK.out _ _ (fun _ => ?_) (fun hE => ?_)
              · exact HQ9.out _ (by first | exact hs.kp | exact hs.drew.kp)
              have hS := hE (by kernel_rfl)
              clear hK K hE
              try simp only [Act.put, List.setIfInBounds_toArray, List.set_cons_zero, List.set_cons_succ]
              refine wpAnyT_ready (rs := [5, 6]) (by kernel_rfl) rfl ?_
              refine AllT.cons (o := { dst := some 84, op := Op.call { callee := Callee.value (Operand.func 9), args := #[Operand.tmp 82, Operand.tmp 83], argTypes := #[25, 24] }, type := 24, pos := "types.go:339", after := #[⟨3, .data⟩, ⟨4, .data⟩, ⟨2, .chain⟩], guard := none }) rfl (fun K hK => ?_) ?_
              · (go_simp; go_at_call 9; with_reducible refine (HA2.out _ (by first | exact hs.kp | exact hs.drew.kp)).mono ?_; rintro e wr ⟨Ay, cy, rfl, hT, hk⟩; (first | replace hs := hs.cally hT hk | replace hs := hs.drew.cally hT hk); clear hT hk; go_wp2_with fail)
                refine hK.out _ _ (fun _ => ?_) (fun hE => ?_)
                · exact HQ9.out _ (by first | exact hs.kp | exact hs.drew.kp)
                have hS := hE (by kernel_rfl)
                clear hK K hE
                try simp only [Act.put, List.setIfInBounds_toArray, List.set_cons_zero, List.set_cons_succ]
                refine wpAnyT_ready (rs := [6]) (by kernel_rfl) rfl ?_
                refine AllT.cons (o := { dst := some 13, op := Op.alloc 24, type := 0, pos := "types.go:339", after := #[], guard := none }) rfl (fun K hK => ?_) ?_
                · (go_simp; refine name_world ?_; intro wz6 hw; (first | replace hs := hs.box6 hw | replace hs := hs.drew.box6 hw | replace hs := hs.box6d hw | replace hs := hs.drew.box6d hw); (try rw [drew_size] at hs); clear hw)
                  refine hK.out _ _ (fun _ => ?_) (fun hE => ?_)
                  · exact HQ9.out _ (by first | exact hs.kp | exact hs.drew.kp)
                  have hS := hE (by kernel_rfl)
                  clear hK K hE
                  try simp only [Act.put, List.setIfInBounds_toArray, List.set_cons_zero, List.set_cons_succ]
                  refine wpAnyT_ready (rs := [8]) (by kernel_rfl) rfl ?_
                  refine AllT.cons (o := { dst := none, op := Op.store 24 (Operand.tmp 13) (Operand.tmp 81), type := 0, pos := "types.go:339", after := #[⟨6, .data⟩, ⟨2, .data⟩, ⟨5, .chain⟩, ⟨0, .phase⟩, ⟨1, .phase⟩, ⟨2, .phase⟩, ⟨3, .textOnly .lateStores⟩, ⟨4, .textOnly .lateStores⟩, ⟨5, .textOnly .lateStoresUnsure⟩, ⟨6, .phase⟩, ⟨7, .phase⟩], guard := none }) rfl (fun K hK => ?_) ?_
                  · (obtain ⟨hB6, -⟩ := hs.b6 _ rfl; have r0 := hB6.cell (i := 0) rfl; have r1 := hB6.cell (i := 1) rfl; have r2 := hB6.cell (i := 2) rfl; have r3 := hB6.cell (i := 3) rfl; have f0 := hB6.free 0; have f1 := hB6.free 1; have f2 := hB6.free 2; have f3 := hB6.free 3; go_simp)
                    refine hK.out _ _ (fun he => Bool.noConfusion (show false = true from he)) (fun hE => ?_)
                    clear hK K hE
                    try simp only [Act.put, List.setIfInBounds_toArray, List.set_cons_zero, List.set_cons_succ]
                    refine wpAnyT_ready (rs := [9]) (by kernel_rfl) rfl ?_
                    refine AllT.cons (o := { dst := none, op := Op.store 24 (Operand.tmp 14) (Operand.tmp 84), type := 0, pos := "types.go:339", after := #[⟨7, .data⟩, ⟨5, .data⟩, ⟨8, .chain⟩, ⟨0, .phase⟩, ⟨1, .phase⟩, ⟨2, .phase⟩, ⟨3, .phase⟩, ⟨4, .phase⟩, ⟨5, .phase⟩, ⟨6, .phase⟩, ⟨7, .phase⟩, ⟨8, .phase⟩], guard := none }) rfl (fun K hK => ?_) ?_
                    · (obtain ⟨hB6, -⟩ := hs.b6 _ rfl; obtain ⟨hB7, -⟩ := hs.b7 _ rfl; obtain ⟨-, hK6⟩ := four (show Blk _ _ _ [_, _, _, _] from hB6) (.int .i64 x.kind) (.string x.name) (.int .i64 x.var) (.slice Ax x.args.length cx); have hB7s := hB7.keeps hK6 (fun e => hs.ne _ _ rfl rfl e.symm); have q0 := hB7s.cell (i := 0) rfl; have q1 := hB7s.cell (i := 1) rfl; have q2 := hB7s.cell (i := 2) rfl; have q3 := hB7s.cell (i := 3) rfl; have h0 := hB7s.free 0; have h1 := hB7s.free 1; have h2 := hB7s.free 2; have h3 := hB7s.free 3; go_simp)
                      refine hK.out _ _ (fun he => Bool.noConfusion (show false = true from he)) (fun hE => ?_)
                      clear hK K hE
                      try simp only [Act.put, List.setIfInBounds_toArray, List.set_cons_zero, List.set_cons_succ]
                      refine wpAnyT_done (by kernel_rfl) ?_ _
                      refine NoPanic.normal ?_
                      go_wp2_with fail
                      go_meet
                      exact ⟨_, _, Ax, cx, Ay, cy, rfl, rfl, hs.fin rfl⟩
                    exact AllT.nil
                  exact AllT.nil
                exact AllT.nil
              refine AllT.cons (o := { dst := some 13, op := Op.alloc 24, type := 0, pos := "types.go:339", after := #[], guard := none }) rfl (fun K hK => ?_) ?_
              · (go_simp; refine name_world ?_; intro wz6 hw; (first | replace hs := hs.box6 hw | replace hs := hs.drew.box6 hw | replace hs := hs.box6d hw | replace hs := hs.drew.box6d hw); (try rw [drew_size] at hs); clear hw)
                refine hK.out _ _ (fun _ => ?_) (fun hE => ?_)
                · exact HQ9.out _ (by first | exact hs.kp | exact hs.drew.kp)
                have hS := hE (by kernel_rfl)
                clear hK K hE
                try simp only [Act.put, List.setIfInBounds_toArray, List.set_cons_zero, List.set_cons_succ]
                refine wpAnyT_ready (rs := [5]) (by kernel_rfl) rfl ?_
                refine AllT.cons (o := { dst := some 84, op := Op.call { callee := Callee.value (Operand.func 9), args := #[Operand.tmp 82, Operand.tmp 83], argTypes := #[25, 24] }, type := 24, pos := "types.go:339", after := #[⟨3, .data⟩, ⟨4, .data⟩, ⟨2, .chain⟩], guard := none }) rfl (fun K hK => ?_) ?_
                · (go_simp; go_at_call 9; with_reducible refine (HA2.out _ (by first | exact hs.kp | exact hs.drew.kp)).mono ?_; rintro e wr ⟨Ay, cy, rfl, hT, hk⟩; (first | replace hs := hs.cally hT hk | replace hs := hs.drew.cally hT hk); clear hT hk; go_wp2_with fail)
                  refine hK.out _ _ (fun _ => ?_) (fun hE => ?_)
                  · exact HQ9.out _ (by first | exact hs.kp | exact hs.drew.kp)
                  have hS := hE (by kernel_rfl)
                  clear hK K hE
                  try simp only [Act.put, List.setIfInBounds_toArray, List.set_cons_zero, List.set_cons_succ]
                  refine wpAnyT_ready (rs := [8]) (by kernel_rfl) rfl ?_
                  refine AllT.cons (o := { dst := none, op := Op.store 24 (Operand.tmp 13) (Operand.tmp 81), type := 0, pos := "types.go:339", after := #[⟨6, .data⟩, ⟨2, .data⟩, ⟨5, .chain⟩, ⟨0, .phase⟩, ⟨1, .phase⟩, ⟨2, .phase⟩, ⟨3, .textOnly .lateStores⟩, ⟨4, .textOnly .lateStores⟩, ⟨5, .textOnly .lateStoresUnsure⟩, ⟨6, .phase⟩, ⟨7, .phase⟩], guard := none }) rfl (fun K hK => ?_) ?_
                  · (obtain ⟨hB6, -⟩ := hs.b6 _ rfl; have r0 := hB6.cell (i := 0) rfl; have r1 := hB6.cell (i := 1) rfl; have r2 := hB6.cell (i := 2) rfl; have r3 := hB6.cell (i := 3) rfl; have f0 := hB6.free 0; have f1 := hB6.free 1; have f2 := hB6.free 2; have f3 := hB6.free 3; go_simp)
                    refine hK.out _ _ (fun he => Bool.noConfusion (show false = true from he)) (fun hE => ?_)
                    clear hK K hE
                    try simp only [Act.put, List.setIfInBounds_toArray, List.set_cons_zero, List.set_cons_succ]
                    refine wpAnyT_ready (rs := [9]) (by kernel_rfl) rfl ?_
                    refine AllT.cons (o := { dst := none, op := Op.store 24 (Operand.tmp 14) (Operand.tmp 84), type := 0, pos := "types.go:339", after := #[⟨7, .data⟩, ⟨5, .data⟩, ⟨8, .chain⟩, ⟨0, .phase⟩, ⟨1, .phase⟩, ⟨2, .phase⟩, ⟨3, .phase⟩, ⟨4, .phase⟩, ⟨5, .phase⟩, ⟨6, .phase⟩, ⟨7, .phase⟩, ⟨8, .phase⟩], guard := none }) rfl (fun K hK => ?_) ?_
                    · (obtain ⟨hB6, -⟩ := hs.b6 _ rfl; obtain ⟨hB7, -⟩ := hs.b7 _ rfl; obtain ⟨-, hK6⟩ := four (show Blk _ _ _ [_, _, _, _] from hB6) (.int .i64 x.kind) (.string x.name) (.int .i64 x.var) (.slice Ax x.args.length cx); have hB7s := hB7.keeps hK6 (fun e => hs.ne _ _ rfl rfl e.symm); have q0 := hB7s.cell (i := 0) rfl; have q1 := hB7s.cell (i := 1) rfl; have q2 := hB7s.cell (i := 2) rfl; have q3 := hB7s.cell (i := 3) rfl; have h0 := hB7s.free 0; have h1 := hB7s.free 1; have h2 := hB7s.free 2; have h3 := hB7s.free 3; go_simp)
                      refine hK.out _ _ (fun he => Bool.noConfusion (show false = true from he)) (fun hE => ?_)
                      clear hK K hE
                      try simp only [Act.put, List.setIfInBounds_toArray, List.set_cons_zero, List.set_cons_succ]
                      refine wpAnyT_done (by kernel_rfl) ?_ _
                      refine NoPanic.normal ?_
                      go_wp2_with fail
                      go_meet
                      exact ⟨_, _, Ax, cx, Ay, cy, rfl, rfl, hs.fin rfl⟩
                    exact AllT.nil
                  exact AllT.nil
                exact AllT.nil
              exact AllT.nil
            refine AllT.cons (o := { dst := some 13, op := Op.alloc 24, type := 0, pos := "types.go:339", after := #[], guard := none }) rfl (fun K hK => ?_) ?_
            · (go_simp; refine name_world ?_; intro wz6 hw; (first | replace hs := hs.box6 hw | replace hs := hs.drew.box6 hw | replace hs := hs.box6d hw | replace hs := hs.drew.box6d hw); (try rw [drew_size] at hs); clear hw)
              refine hK.out _ _ (fun _ => ?_) (fun hE => ?_)
              · exact HQ9.out _ (by first | exact hs.kp | exact hs.drew.kp)
              have hS := hE (by kernel_rfl)
              clear hK K hE
              try simp only [Act.put, List.setIfInBounds_toArray, List.set_cons_zero, List.set_cons_succ]
              refine wpAnyT_ready (rs := [4]) (by kernel_rfl) rfl ?_
              refine AllT.cons (o := { dst := some 83, op := Op.load 24 (Operand.tmp 2), type := 24, pos := "types.go:339", after := #[], guard := none }) rfl (fun K hK => ?_) ?_
              · go_simp
                refine hK.out _ _ (fun _ => ?_) (fun hE => ?_)
                · exact HQ9.out _ (by first | exact hs.kp | exact hs.drew.kp)
                have hS := hE (by kernel_rfl)
                clear hK K hE
                try simp only [Act.put, List.setIfInBounds_toArray, List.set_cons_zero, List.set_cons_succ]
                refine wpAnyT_ready (rs := [5]) (by kernel_rfl) rfl ?_
                refine AllT.cons (o := { dst := some 84, op := Op.call { callee := Callee.value (Operand.func 9), args := #[Operand.tmp 82, Operand.tmp 83], argTypes := #[25, 24] }, type := 24, pos := "types.go:339", after := #[⟨3, .data⟩, ⟨4, .data⟩, ⟨2, .chain⟩], guard := none }) rfl (fun K hK => ?_) ?_
                · (go_simp; go_at_call 9; with_reducible refine (HA2.out _ (by first | exact hs.kp | exact hs.drew.kp)).mono ?_; rintro e wr ⟨Ay, cy, rfl, hT, hk⟩; (first | replace hs := hs.cally hT hk | replace hs := hs.drew.cally hT hk); clear hT hk; go_wp2_with fail)
                  refine hK.out _ _ (fun _ => ?_) (fun hE => ?_)
                  · exact HQ9.out _ (by first | exact hs.kp | exact hs.drew.kp)
                  have hS := hE (by kernel_rfl)
                  clear hK K hE
                  try simp only [Act.put, List.setIfInBounds_toArray, List.set_cons_zero, List.set_cons_succ]
                  refine wpAnyT_ready (rs := [8]) (by kernel_rfl) rfl ?_
                  refine AllT.cons (o := { dst := none, op := Op.store 24 (Operand.tmp 13) (Operand.tmp 81), type := 0, pos := "types.go:339", after := #[⟨6, .data⟩, ⟨2, .data⟩, ⟨5, .chain⟩, ⟨0, .phase⟩, ⟨1, .phase⟩, ⟨2, .phase⟩, ⟨3, .textOnly .lateStores⟩, ⟨4, .textOnly .lateStores⟩, ⟨5, .textOnly .lateStoresUnsure⟩, ⟨6, .phase⟩, ⟨7, .phase⟩], guard := none }) rfl (fun K hK => ?_) ?_
                  · (obtain ⟨hB6, -⟩ := hs.b6 _ rfl; have r0 := hB6.cell (i := 0) rfl; have r1 := hB6.cell (i := 1) rfl; have r2 := hB6.cell (i := 2) rfl; have r3 := hB6.cell (i := 3) rfl; have f0 := hB6.free 0; have f1 := hB6.free 1; have f2 := hB6.free 2; have f3 := hB6.free 3; go_simp)
                    refine hK.out _ _ (fun he => Bool.noConfusion (show false = true from he)) (fun hE => ?_)
                    clear hK K hE
                    try simp only [Act.put, List.setIfInBounds_toArray, List.set_cons_zero, List.set_cons_succ]
                    refine wpAnyT_ready (rs := [9]) (by kernel_rfl) rfl ?_
                    refine AllT.cons (o := { dst := none, op := Op.store 24 (Operand.tmp 14) (Operand.tmp 84), type := 0, pos := "types.go:339", after := #[⟨7, .data⟩, ⟨5, .data⟩, ⟨8, .chain⟩, ⟨0, .phase⟩, ⟨1, .phase⟩, ⟨2, .phase⟩, ⟨3, .phase⟩, ⟨4, .phase⟩, ⟨5, .phase⟩, ⟨6, .phase⟩, ⟨7, .phase⟩, ⟨8, .phase⟩], guard := none }) rfl (fun K hK => ?_) ?_
                    · (obtain ⟨hB6, -⟩ := hs.b6 _ rfl; obtain ⟨hB7, -⟩ := hs.b7 _ rfl; obtain ⟨-, hK6⟩ := four (show Blk _ _ _ [_, _, _, _] from hB6) (.int .i64 x.kind) (.string x.name) (.int .i64 x.var) (.slice Ax x.args.length cx); have hB7s := hB7.keeps hK6 (fun e => hs.ne _ _ rfl rfl e.symm); have q0 := hB7s.cell (i := 0) rfl; have q1 := hB7s.cell (i := 1) rfl; have q2 := hB7s.cell (i := 2) rfl; have q3 := hB7s.cell (i := 3) rfl; have h0 := hB7s.free 0; have h1 := hB7s.free 1; have h2 := hB7s.free 2; have h3 := hB7s.free 3; go_simp)
                      refine hK.out _ _ (fun he => Bool.noConfusion (show false = true from he)) (fun hE => ?_)
                      clear hK K hE
                      try simp only [Act.put, List.setIfInBounds_toArray, List.set_cons_zero, List.set_cons_succ]
                      refine wpAnyT_done (by kernel_rfl) ?_ _
                      refine NoPanic.normal ?_
                      go_wp2_with fail
                      go_meet
                      exact ⟨_, _, Ax, cx, Ay, cy, rfl, rfl, hs.fin rfl⟩
                    exact AllT.nil
                  exact AllT.nil
                exact AllT.nil
              exact AllT.nil
            exact AllT.nil
          refine AllT.cons (o := { dst := some 83, op := Op.load 24 (Operand.tmp 2), type := 24, pos := "types.go:339", after := #[], guard := none }) rfl (fun K hK => ?_) ?_
          · go_simp
            refine hK.out _ _ (fun _ => ?_) (fun hE => ?_)
            · exact HQ9.out _ (by first | exact hs.kp | exact hs.drew.kp)
            have hS := hE (by kernel_rfl)
            clear hK K hE
            try simp only [Act.put, List.setIfInBounds_toArray, List.set_cons_zero, List.set_cons_succ]
            refine wpAnyT_ready (rs := [2, 6]) (by kernel_rfl) rfl ?_
            refine AllT.cons (o := { dst := some 81, op := Op.call { callee := Callee.value (Operand.func 9), args := #[Operand.tmp 79, Operand.tmp 80], argTypes := #[25, 24] }, type := 24, pos := "types.go:339", after := #[⟨0, .data⟩, ⟨1, .data⟩], guard := none }) rfl (fun K hK => ?_) ?_
            · (go_simp; go_at_call 9; with_reducible refine (HA1.out _ (by first | exact hs.kp | exact hs.drew.kp)).mono ?_; rintro e wp ⟨Ax, cx, rfl, hT, hk⟩; (first | replace hs := hs.callx hT hk | replace hs := hs.drew.callx hT hk); clear hT hk; go_wp2_with fail)
              refine hK.out _ _ (fun _ => ?_) (fun hE => ?_)
              · exact HQ9.out _ (by first | exact hs.kp | exact hs.drew.kp)
              have hS := hE (by kernel_rfl)
              clear hK K hE
              try simp only [Act.put, List.setIfInBounds_toArray, List.set_cons_zero, List.set_cons_succ]
              refine wpAnyT_ready (rs := [5, 6]) (by kernel_rfl) rfl ?_
              refine AllT.cons (o := { dst := some 84, op := Op.call { callee := Callee.value (Operand.func 9), args := #[Operand.tmp 82, Operand.tmp 83], argTypes := #[25, 24] }, type := 24, pos := "types.go:339", after := #[⟨3, .data⟩, ⟨4, .data⟩, ⟨2, .chain⟩], guard := none }) rfl (fun K hK => ?_) ?_
              · (go_simp; go_at_call 9; with_reducible refine (HA2.out _ (by first | exact hs.kp | exact hs.drew.kp)).mono ?_; rintro e wr ⟨Ay, cy, rfl, hT, hk⟩; (first | replace hs := hs.cally hT hk | replace hs := hs.drew.cally hT hk); clear hT hk; go_wp2_with fail)
                refine hK.out _ _ (fun _ => ?_) (fun hE => ?_)
                · exact HQ9.out _ (by first | exact hs.kp | exact hs.drew.kp)
                have hS := hE (by kernel_rfl)
                clear hK K hE
                try simp only [Act.put, List.setIfInBounds_toArray, List.set_cons_zero, List.set_cons_succ]
                refine wpAnyT_ready (rs := [6]) (by kernel_rfl) rfl ?_
                refine AllT.cons (o := { dst := some 13, op := Op.alloc 24, type := 0, pos := "types.go:339", after := #[], guard := none }) rfl (fun K hK => ?_) ?_
                · (go_simp; refine name_world ?_; intro wz6 hw; (first | replace hs := hs.box6 hw | replace hs := hs.drew.box6 hw | replace hs := hs.box6d hw | replace hs := hs.drew.box6d hw); (try rw [drew_size] at hs); clear hw)
                  refine hK.out _ _ (fun _ => ?_) (fun hE => ?_)
                  · exact HQ9.out _ (by first | exact hs.kp | exact hs.drew.kp)
                  have hS := hE (by kernel_rfl)
                  clear hK K hE
                  try simp only [Act.put, List.setIfInBounds_toArray, List.set_cons_zero, List.set_cons_succ]
                  refine wpAnyT_ready (rs := [8]) (by kernel_rfl) rfl ?_
                  refine AllT.cons (o := { dst := none, op := Op.store 24 (Operand.tmp 13) (Operand.tmp 81), type := 0, pos := "types.go:339", after := #[⟨6, .data⟩, ⟨2, .data⟩, ⟨5, .chain⟩, ⟨0, .phase⟩, ⟨1, .phase⟩, ⟨2, .phase⟩, ⟨3, .textOnly .lateStores⟩, ⟨4, .textOnly .lateStores⟩, ⟨5, .textOnly .lateStoresUnsure⟩, ⟨6, .phase⟩, ⟨7, .phase⟩], guard := none }) rfl (fun K hK => ?_) ?_
                  · (obtain ⟨hB6, -⟩ := hs.b6 _ rfl; have r0 := hB6.cell (i := 0) rfl; have r1 := hB6.cell (i := 1) rfl; have r2 := hB6.cell (i := 2) rfl; have r3 := hB6.cell (i := 3) rfl; have f0 := hB6.free 0; have f1 := hB6.free 1; have f2 := hB6.free 2; have f3 := hB6.free 3; go_simp)
                    refine hK.out _ _ (fun he => Bool.noConfusion (show false = true from he)) (fun hE => ?_)
                    clear hK K hE
                    try simp only [Act.put, List.setIfInBounds_toArray, List.set_cons_zero, List.set_cons_succ]
                    refine wpAnyT_ready (rs := [9]) (by kernel_rfl) rfl ?_
                    refine AllT.cons (o := { dst := none, op := Op.store 24 (Operand.tmp 14) (Operand.tmp 84), type := 0, pos := "types.go:339", after := #[⟨7, .data⟩, ⟨5, .data⟩, ⟨8, .chain⟩, ⟨0, .phase⟩, ⟨1, .phase⟩, ⟨2, .phase⟩, ⟨3, .phase⟩, ⟨4, .phase⟩, ⟨5, .phase⟩, ⟨6, .phase⟩, ⟨7, .phase⟩, ⟨8, .phase⟩], guard := none }) rfl (fun K hK => ?_) ?_
                    · (obtain ⟨hB6, -⟩ := hs.b6 _ rfl; obtain ⟨hB7, -⟩ := hs.b7 _ rfl; obtain ⟨-, hK6⟩ := four (show Blk _ _ _ [_, _, _, _] from hB6) (.int .i64 x.kind) (.string x.name) (.int .i64 x.var) (.slice Ax x.args.length cx); have hB7s := hB7.keeps hK6 (fun e => hs.ne _ _ rfl rfl e.symm); have q0 := hB7s.cell (i := 0) rfl; have q1 := hB7s.cell (i := 1) rfl; have q2 := hB7s.cell (i := 2) rfl; have q3 := hB7s.cell (i := 3) rfl; have h0 := hB7s.free 0; have h1 := hB7s.free 1; have h2 := hB7s.free 2; have h3 := hB7s.free 3; go_simp)
                      refine hK.out _ _ (fun he => Bool.noConfusion (show false = true from he)) (fun hE => ?_)
                      clear hK K hE
                      try simp only [Act.put, List.setIfInBounds_toArray, List.set_cons_zero, List.set_cons_succ]
                      refine wpAnyT_done (by kernel_rfl) ?_ _
                      refine NoPanic.normal ?_
                      go_wp2_with fail
                      go_meet
                      exact ⟨_, _, Ax, cx, Ay, cy, rfl, rfl, hs.fin rfl⟩
                    exact AllT.nil
                  exact AllT.nil
                exact AllT.nil
              refine AllT.cons (o := { dst := some 13, op := Op.alloc 24, type := 0, pos := "types.go:339", after := #[], guard := none }) rfl (fun K hK => ?_) ?_
              · (go_simp; refine name_world ?_; intro wz6 hw; (first | replace hs := hs.box6 hw | replace hs := hs.drew.box6 hw | replace hs := hs.box6d hw | replace hs := hs.drew.box6d hw); (try rw [drew_size] at hs); clear hw)
                refine hK.out _ _ (fun _ => ?_) (fun hE => ?_)
                · exact HQ9.out _ (by first | exact hs.kp | exact hs.drew.kp)
                have hS := hE (by kernel_rfl)
                clear hK K hE
                try simp only [Act.put, List.setIfInBounds_toArray, List.set_cons_zero, List.set_cons_succ]
                refine wpAnyT_ready (rs := [5]) (by kernel_rfl) rfl ?_
                refine AllT.cons (o := { dst := some 84, op := Op.call { callee := Callee.value (Operand.func 9), args := #[Operand.tmp 82, Operand.tmp 83], argTypes := #[25, 24] }, type := 24, pos := "types.go:339", after := #[⟨3, .data⟩, ⟨4, .data⟩, ⟨2, .chain⟩], guard := none }) rfl (fun K hK => ?_) ?_
                · (go_simp; go_at_call 9; with_reducible refine (HA2.out _ (by first | exact hs.kp | exact hs.drew.kp)).mono ?_; rintro e wr ⟨Ay, cy, rfl, hT, hk⟩; (first | replace hs := hs.cally hT hk | replace hs := hs.drew.cally hT hk); clear hT hk; go_wp2_with fail)
                  refine hK.out _ _ (fun _ => ?_) (fun hE => ?_)
                  · exact HQ9.out _ (by first | exact hs.kp | exact hs.drew.kp)
                  have hS := hE (by kernel_rfl)
                  clear hK K hE
                  try simp only [Act.put, List.setIfInBounds_toArray, List.set_cons_zero, List.set_cons_succ]
                  refine wpAnyT_ready (rs := [8]) (by kernel_rfl) rfl ?_
                  refine AllT.cons (o := { dst := none, op := Op.store 24 (Operand.tmp 13) (Operand.tmp 81), type := 0, pos := "types.go:339", after := #[⟨6, .data⟩, ⟨2, .data⟩, ⟨5, .chain⟩, ⟨0, .phase⟩, ⟨1, .phase⟩, ⟨2, .phase⟩, ⟨3, .textOnly .lateStores⟩, ⟨4, .textOnly .lateStores⟩, ⟨5, .textOnly .lateStoresUnsure⟩, ⟨6, .phase⟩, ⟨7, .phase⟩], guard := none }) rfl (fun K hK => ?_) ?_
                  · (obtain ⟨hB6, -⟩ := hs.b6 _ rfl; have r0 := hB6.cell (i := 0) rfl; have r1 := hB6.cell (i := 1) rfl; have r2 := hB6.cell (i := 2) rfl; have r3 := hB6.cell (i := 3) rfl; have f0 := hB6.free 0; have f1 := hB6.free 1; have f2 := hB6.free 2; have f3 := hB6.free 3; go_simp)
                    refine hK.out _ _ (fun he => Bool.noConfusion (show false = true from he)) (fun hE => ?_)
                    clear hK K hE
                    try simp only [Act.put, List.setIfInBounds_toArray, List.set_cons_zero, List.set_cons_succ]
                    refine wpAnyT_ready (rs := [9]) (by kernel_rfl) rfl ?_
                    refine AllT.cons (o := { dst := none, op := Op.store 24 (Operand.tmp 14) (Operand.tmp 84), type := 0, pos := "types.go:339", after := #[⟨7, .data⟩, ⟨5, .data⟩, ⟨8, .chain⟩, ⟨0, .phase⟩, ⟨1, .phase⟩, ⟨2, .phase⟩, ⟨3, .phase⟩, ⟨4, .phase⟩, ⟨5, .phase⟩, ⟨6, .phase⟩, ⟨7, .phase⟩, ⟨8, .phase⟩], guard := none }) rfl (fun K hK => ?_) ?_
                    · (obtain ⟨hB6, -⟩ := hs.b6 _ rfl; obtain ⟨hB7, -⟩ := hs.b7 _ rfl; obtain ⟨-, hK6⟩ := four (show Blk _ _ _ [_, _, _, _] from hB6) (.int .i64 x.kind) (.string x.name) (.int .i64 x.var) (.slice Ax x.args.length cx); have hB7s := hB7.keeps hK6 (fun e => hs.ne _ _ rfl rfl e.symm); have q0 := hB7s.cell (i := 0) rfl; have q1 := hB7s.cell (i := 1) rfl; have q2 := hB7s.cell (i := 2) rfl; have q3 := hB7s.cell (i := 3) rfl; have h0 := hB7s.free 0; have h1 := hB7s.free 1; have h2 := hB7s.free 2; have h3 := hB7s.free 3; go_simp)
                      refine hK.out _ _ (fun he => Bool.noConfusion (show false = true from he)) (fun hE => ?_)
                      clear hK K hE
                      try simp only [Act.put, List.setIfInBounds_toArray, List.set_cons_zero, List.set_cons_succ]
                      refine wpAnyT_done (by kernel_rfl) ?_ _
                      refine NoPanic.normal ?_
                      go_wp2_with fail
                      go_meet
                      exact ⟨_, _, Ax, cx, Ay, cy, rfl, rfl, hs.fin rfl⟩
                    exact AllT.nil
                  exact AllT.nil
                exact AllT.nil
              exact AllT.nil
            refine AllT.cons (o := { dst := some 13, op := Op.alloc 24, type := 0, pos := "types.go:339", after := #[], guard := none }) rfl (fun K hK => ?_) ?_
            · (go_simp; refine name_world ?_; intro wz6 hw; (first | replace hs := hs.box6 hw | replace hs := hs.drew.box6 hw | replace hs := hs.box6d hw | replace hs := hs.drew.box6d hw); (try rw [drew_size] at hs); clear hw)
              refine hK.out _ _ (fun _ => ?_) (fun hE => ?_)
              · exact HQ9.out _ (by first | exact hs.kp | exact hs.drew.kp)
              have hS := hE (by kernel_rfl)
              clear hK K hE
              try simp only [Act.put, List.setIfInBounds_toArray, List.set_cons_zero, List.set_cons_succ]
              refine wpAnyT_ready (rs := [2]) (by kernel_rfl) rfl ?_
              refine AllT.cons (o := { dst := some 81, op := Op.call { callee := Callee.value (Operand.func 9), args := #[Operand.tmp 79, Operand.tmp 80], argTypes := #[25, 24] }, type := 24, pos := "types.go:339", after := #[⟨0, .data⟩, ⟨1, .data⟩], guard := none }) rfl (fun K hK => ?_) ?_
              · (go_simp; go_at_call 9; with_reducible refine (HA1.out _ (by first | exact hs.kp | exact hs.drew.kp)).mono ?_; rintro e wp ⟨Ax, cx, rfl, hT, hk⟩; (first | replace hs := hs.callx hT hk | replace hs := hs.drew.callx hT hk); clear hT hk; go_wp2_with fail)
                refine hK.out _ _ (fun _ => ?_) (fun hE => ?_)
                · exact HQ9.out _ (by first | exact hs.kp | exact hs.drew.kp)
                have hS := hE (by kernel_rfl)
                clear hK K hE
                try simp only [Act.put, List.setIfInBounds_toArray, List.set_cons_zero, List.set_cons_succ]
                refine wpAnyT_ready (rs := [5]) (by kernel_rfl) rfl ?_
                refine AllT.cons (o := { dst := some 84, op := Op.call { callee := Callee.value (Operand.func 9), args := #[Operand.tmp 82, Operand.tmp 83], argTypes := #[25, 24] }, type := 24, pos := "types.go:339", after := #[⟨3, .data⟩, ⟨4, .data⟩, ⟨2, .chain⟩], guard := none }) rfl (fun K hK => ?_) ?_
                · (go_simp; go_at_call 9; with_reducible refine (HA2.out _ (by first | exact hs.kp | exact hs.drew.kp)).mono ?_; rintro e wr ⟨Ay, cy, rfl, hT, hk⟩; (first | replace hs := hs.cally hT hk | replace hs := hs.drew.cally hT hk); clear hT hk; go_wp2_with fail)
                  refine hK.out _ _ (fun _ => ?_) (fun hE => ?_)
                  · exact HQ9.out _ (by first | exact hs.kp | exact hs.drew.kp)
                  have hS := hE (by kernel_rfl)
                  clear hK K hE
                  try simp only [Act.put, List.setIfInBounds_toArray, List.set_cons_zero, List.set_cons_succ]
                  refine wpAnyT_ready (rs := [8]) (by kernel_rfl) rfl ?_
                  refine AllT.cons (o := { dst := none, op := Op.store 24 (Operand.tmp 13) (Operand.tmp 81), type := 0, pos := "types.go:339", after := #[⟨6, .data⟩, ⟨2, .data⟩, ⟨5, .chain⟩, ⟨0, .phase⟩, ⟨1, .phase⟩, ⟨2, .phase⟩, ⟨3, .textOnly .lateStores⟩, ⟨4, .textOnly .lateStores⟩, ⟨5, .textOnly .lateStoresUnsure⟩, ⟨6, .phase⟩, ⟨7, .phase⟩], guard := none }) rfl (fun K hK => ?_) ?_
                  · (obtain ⟨hB6, -⟩ := hs.b6 _ rfl; have r0 := hB6.cell (i := 0) rfl; have r1 := hB6.cell (i := 1) rfl; have r2 := hB6.cell (i := 2) rfl; have r3 := hB6.cell (i := 3) rfl; have f0 := hB6.free 0; have f1 := hB6.free 1; have f2 := hB6.free 2; have f3 := hB6.free 3; go_simp)
                    refine hK.out _ _ (fun he => Bool.noConfusion (show false = true from he)) (fun hE => ?_)
                    clear hK K hE
                    try simp only [Act.put, List.setIfInBounds_toArray, List.set_cons_zero, List.set_cons_succ]
                    refine wpAnyT_ready (rs := [9]) (by kernel_rfl) rfl ?_
                    refine AllT.cons (o := { dst := none, op := Op.store 24 (Operand.tmp 14) (Operand.tmp 84), type := 0, pos := "types.go:339", after := #[⟨7, .data⟩, ⟨5, .data⟩, ⟨8, .chain⟩, ⟨0, .phase⟩, ⟨1, .phase⟩, ⟨2, .phase⟩, ⟨3, .phase⟩, ⟨4, .phase⟩, ⟨5, .phase⟩, ⟨6, .phase⟩, ⟨7, .phase⟩, ⟨8, .phase⟩], guard := none }) rfl (fun K hK => ?_) ?_
                    · (obtain ⟨hB6, -⟩ := hs.b6 _ rfl; obtain ⟨hB7, -⟩ := hs.b7 _ rfl; obtain ⟨-, hK6⟩ := four (show Blk _ _ _ [_, _, _, _] from hB6) (.int .i64 x.kind) (.string x.name) (.int .i64 x.var) (.slice Ax x.args.length cx); have hB7s := hB7.keeps hK6 (fun e => hs.ne _ _ rfl rfl e.symm); have q0 := hB7s.cell (i := 0) rfl; have q1 := hB7s.cell (i := 1) rfl; have q2 := hB7s.cell (i := 2) rfl; have q3 := hB7s.cell (i := 3) rfl; have h0 := hB7s.free 0; have h1 := hB7s.free 1; have h2 := hB7s.free 2; have h3 := hB7s.free 3; go_simp)
                      refine hK.out _ _ (fun he => Bool.noConfusion (show false = true from he)) (fun hE => ?_)
                      clear hK K hE
                      try simp only [Act.put, List.setIfInBounds_toArray, List.set_cons_zero, List.set_cons_succ]
                      refine wpAnyT_done (by kernel_rfl) ?_ _
                      refine NoPanic.normal ?_
                      go_wp2_with fail
                      go_meet
                      exact ⟨_, _, Ax, cx, Ay, cy, rfl, rfl, hs.fin rfl⟩
                    exact AllT.nil
                  exact AllT.nil
                exact AllT.nil
              exact AllT.nil
            exact AllT.nil
          refine AllT.cons (o := { dst := some 13, op := Op.alloc 24, type := 0, pos := "types.go:339", after := #[], guard := none }) rfl (fun K hK => ?_) ?_
          · (go_simp; refine name_world ?_; intro wz6 hw; (first | replace hs := hs.box6 hw | replace hs := hs.drew.box6 hw | replace hs := hs.box6d hw | replace hs := hs.drew.box6d hw); (try rw [drew_size] at hs); clear hw)
            refine hK.out _ _ (fun _ => ?_) (fun hE => ?_)
            · exact HQ9.out _ (by first | exact hs.kp | exact hs.drew.kp)
            have hS := hE (by kernel_rfl)
            clear hK K hE
            try simp only [Act.put, List.setIfInBounds_toArray, List.set_cons_zero, List.set_cons_succ]
            refine wpAnyT_ready (rs := [2, 4]) (by kernel_rfl) rfl ?_
            refine AllT.cons (o := { dst := some 81, op := Op.call { callee := Callee.value (Operand.func 9), args := #[Operand.tmp 79, Operand.tmp 80], argTypes := #[25, 24] }, type := 24, pos := "types.go:339", after := #[⟨0, .data⟩, ⟨1, .data⟩], guard := none }) rfl (fun K hK => ?_) ?_
            · (go_simp; go_at_call 9; with_reducible refine (HA1.out _ (by first | exact hs.kp | exact hs.drew.kp)).mono ?_; rintro e wp ⟨Ax, cx, rfl, hT, hk⟩; (first | replace hs := hs.callx hT hk | replace hs := hs.drew.callx hT hk); clear hT hk; go_wp2_with fail)
              refine hK.out _ _ (fun _ => ?_) (fun hE => ?_)
              · exact HQ9.out _ (by first | exact hs.kp | exact hs.drew.kp)
              have hS := hE (by kernel_rfl)
              clear hK K hE
              try simp only [Act.put, List.setIfInBounds_toArray, List.set_cons_zero, List.set_cons_succ]
              refine wpAnyT_ready (rs := [4]) (by kernel_rfl) rfl ?_
              refine AllT.cons (o := { dst := some 83, op := Op.load 24 (Operand.tmp 2), type := 24, pos := "types.go:339", after := #[], guard := none }) rfl (fun K hK => ?_) ?_
              · go_simp
                refine hK.out _ _ (fun _ => ?_) (fun hE => ?_)
                · exact HQ9.out _ (by first | exact hs.kp | exact hs.drew.kp)
                have hS := hE (by kernel_rfl)
                clear hK K hE
                try simp only [Act.put, List.setIfInBounds_toArray, List.set_cons_zero, List.set_cons_succ]
                refine wpAnyT_ready (rs := [5]) (by kernel_rfl) rfl ?_
                refine AllT.cons (o := { dst := some 84, op := Op.call { callee := Callee.value (Operand.func 9), args := #[Operand.tmp 82, Operand.tmp 83], argTypes := #[25, 24] }, type := 24, pos := "types.go:339", after := #[⟨3, .data⟩, ⟨4, .data⟩, ⟨2, .chain⟩], guard := none }) rfl (fun K hK => ?_) ?_
                · (go_simp; go_at_call 9; with_reducible refine (HA2.out _ (by first | exact hs.kp | exact hs.drew.kp)).mono ?_; rintro e wr ⟨Ay, cy, rfl, hT, hk⟩; (first | replace hs := hs.cally hT hk | replace hs := hs.drew.cally hT hk); clear hT hk; go_wp2_with fail)
                  refine hK.out _ _ (fun _ => ?_) (fun hE => ?_)
                  · exact HQ9.out _ (by first | exact hs.kp | exact hs.drew.kp)
                  have hS := hE (by kernel_rfl)
                  clear hK K hE
                  try simp only [Act.put, List.setIfInBounds_toArray, List.set_cons_zero, List.set_cons_succ]
                  refine wpAnyT_ready (rs := [8]) (by kernel_rfl) rfl ?_
                  refine AllT.cons (o := { dst := none, op := Op.store 24 (Operand.tmp 13) (Operand.tmp 81), type := 0, pos := "types.go:339", after := #[⟨6, .data⟩, ⟨2, .data⟩, ⟨5, .chain⟩, ⟨0, .phase⟩, ⟨1, .phase⟩, ⟨2, .phase⟩, ⟨3, .textOnly .lateStores⟩, ⟨4, .textOnly .lateStores⟩, ⟨5, .textOnly .lateStoresUnsure⟩, ⟨6, .phase⟩, ⟨7, .phase⟩], guard := none }) rfl (fun K hK => ?_) ?_
                  · (obtain ⟨hB6, -⟩ := hs.b6 _ rfl; have r0 := hB6.cell (i := 0) rfl; have r1 := hB6.cell (i := 1) rfl; have r2 := hB6.cell (i := 2) rfl; have r3 := hB6.cell (i := 3) rfl; have f0 := hB6.free 0; have f1 := hB6.free 1; have f2 := hB6.free 2; have f3 := hB6.free 3; go_simp)
                    refine hK.out _ _ (fun he => Bool.noConfusion (show false = true from he)) (fun hE => ?_)
                    clear hK K hE
                    try simp only [Act.put, List.setIfInBounds_toArray, List.set_cons_zero, List.set_cons_succ]
                    refine wpAnyT_ready (rs := [9]) (by kernel_rfl) rfl ?_
                    refine AllT.cons (o := { dst := none, op := Op.store 24 (Operand.tmp 14) (Operand.tmp 84), type := 0, pos := "types.go:339", after := #[⟨7, .data⟩, ⟨5, .data⟩, ⟨8, .chain⟩, ⟨0, .phase⟩, ⟨1, .phase⟩, ⟨2, .phase⟩, ⟨3, .phase⟩, ⟨4, .phase⟩, ⟨5, .phase⟩, ⟨6, .phase⟩, ⟨7, .phase⟩, ⟨8, .phase⟩], guard := none }) rfl (fun K hK => ?_) ?_
                    · (obtain ⟨hB6, -⟩ := hs.b6 _ rfl; obtain ⟨hB7, -⟩ := hs.b7 _ rfl; obtain ⟨-, hK6⟩ := four (show Blk _ _ _ [_, _, _, _] from hB6) (.int .i64 x.kind) (.string x.name) (.int .i64 x.var) (.slice Ax x.args.length cx); have hB7s := hB7.keeps hK6 (fun e => hs.ne _ _ rfl rfl e.symm); have q0 := hB7s.cell (i := 0) rfl; have q1 := hB7s.cell (i := 1) rfl; have q2 := hB7s.cell (i := 2) rfl; have q3 := hB7s.cell (i := 3) rfl; have h0 := hB7s.free 0; have h1 := hB7s.free 1; have h2 := hB7s.free 2; have h3 := hB7s.free 3; go_simp)
                      refine hK.out _ _ (fun he => Bool.noConfusion (show false = true from he)) (fun hE => ?_)
                      clear hK K hE
                      try simp only [Act.put, List.setIfInBounds_toArray, List.set_cons_zero, List.set_cons_succ]
                      refine wpAnyT_done (by kernel_rfl) ?_ _
                      refine NoPanic.normal ?_
                      go_wp2_with fail
                      go_meet
                      exact ⟨_, _, Ax, cx, Ay, cy, rfl, rfl, hs.fin rfl⟩
                    exact AllT.nil
                  exact AllT.nil
                exact AllT.nil
              exact AllT.nil
            refine AllT.cons (o := { dst := some 83, op := Op.load 24 (Operand.tmp 2), type := 24, pos := "types.go:339", after := #[], guard := none }) rfl (fun K hK => ?_) ?_
            · go_simp
              refine hK.out _ _ (fun _ => ?_) (fun hE => ?_)
              · exact HQ9.out _ (by first | exact hs.kp | exact hs.drew.kp)
              have hS := hE (by kernel_rfl)
              clear hK K hE
              try simp only [Act.put, List.setIfInBounds_toArray, List.set_cons_zero, List.set_cons_succ]
              refine wpAnyT_ready (rs := [2]) (by kernel_rfl) rfl ?_
              refine AllT.cons (o := { dst := some 81, op := Op.call { callee := Callee.value (Operand.func 9), args := #[Operand.tmp 79, Operand.tmp 80], argTypes := #[25, 24] }, type := 24, pos := "types.go:339", after := #[⟨0, .data⟩, ⟨1, .data⟩], guard := none }) rfl (fun K hK => ?_) ?_
              · (go_simp; go_at_call 9; with_reducible refine (HA1.out _ (by first | exact hs.kp | exact hs.drew.kp)).mono ?_; rintro e wp ⟨Ax, cx, rfl, hT, hk⟩; (first | replace hs := hs.callx hT hk | replace hs := hs.drew.callx hT hk); clear hT hk; go_wp2_with fail)
                refine hK.out _ _ (fun _ => ?_) (fun hE => ?_)
                · exact HQ9.out _ (by first | exact hs.kp | exact hs.drew.kp)
                have hS := hE (by kernel_rfl)
                clear hK K hE
                try simp only [Act.put, List.setIfInBounds_toArray, List.set_cons_zero, List.set_cons_succ]
                refine wpAnyT_ready (rs := [5]) (by kernel_rfl) rfl ?_
                refine AllT.cons (o := { dst := some 84, op := Op.call { callee := Callee.value (Operand.func 9), args := #[Operand.tmp 82, Operand.tmp 83], argTypes := #[25, 24] }, type := 24, pos := "types.go:339", after := #[⟨3, .data⟩, ⟨4, .data⟩, ⟨2, .chain⟩], guard := none }) rfl (fun K hK => ?_) ?_
                · (go_simp; go_at_call 9; with_reducible refine (HA2.out _ (by first | exact hs.kp | exact hs.drew.kp)).mono ?_; rintro e wr ⟨Ay, cy, rfl, hT, hk⟩; (first | replace hs := hs.cally hT hk | replace hs := hs.drew.cally hT hk); clear hT hk; go_wp2_with fail)
                  refine hK.out _ _ (fun _ => ?_) (fun hE => ?_)
                  · exact HQ9.out _ (by first | exact hs.kp | exact hs.drew.kp)
                  have hS := hE (by kernel_rfl)
                  clear hK K hE
                  try simp only [Act.put, List.setIfInBounds_toArray, List.set_cons_zero, List.set_cons_succ]
                  refine wpAnyT_ready (rs := [8]) (by kernel_rfl) rfl ?_
                  refine AllT.cons (o := { dst := none, op := Op.store 24 (Operand.tmp 13) (Operand.tmp 81), type := 0, pos := "types.go:339", after := #[⟨6, .data⟩, ⟨2, .data⟩, ⟨5, .chain⟩, ⟨0, .phase⟩, ⟨1, .phase⟩, ⟨2, .phase⟩, ⟨3, .textOnly .lateStores⟩, ⟨4, .textOnly .lateStores⟩, ⟨5, .textOnly .lateStoresUnsure⟩, ⟨6, .phase⟩, ⟨7, .phase⟩], guard := none }) rfl (fun K hK => ?_) ?_
                  · (obtain ⟨hB6, -⟩ := hs.b6 _ rfl; have r0 := hB6.cell (i := 0) rfl; have r1 := hB6.cell (i := 1) rfl; have r2 := hB6.cell (i := 2) rfl; have r3 := hB6.cell (i := 3) rfl; have f0 := hB6.free 0; have f1 := hB6.free 1; have f2 := hB6.free 2; have f3 := hB6.free 3; go_simp)
                    refine hK.out _ _ (fun he => Bool.noConfusion (show false = true from he)) (fun hE => ?_)
                    clear hK K hE
                    try simp only [Act.put, List.setIfInBounds_toArray, List.set_cons_zero, List.set_cons_succ]
                    refine wpAnyT_ready (rs := [9]) (by kernel_rfl) rfl ?_
                    refine AllT.cons (o := { dst := none, op := Op.store 24 (Operand.tmp 14) (Operand.tmp 84), type := 0, pos := "types.go:339", after := #[⟨7, .data⟩, ⟨5, .data⟩, ⟨8, .chain⟩, ⟨0, .phase⟩, ⟨1, .phase⟩, ⟨2, .phase⟩, ⟨3, .phase⟩, ⟨4, .phase⟩, ⟨5, .phase⟩, ⟨6, .phase⟩, ⟨7, .phase⟩, ⟨8, .phase⟩], guard := none }) rfl (fun K hK => ?_) ?_
                    · (obtain ⟨hB6, -⟩ := hs.b6 _ rfl; obtain ⟨hB7, -⟩ := hs.b7 _ rfl; obtain ⟨-, hK6⟩ := four (show Blk _ _ _ [_, _, _, _] from hB6) (.int .i64 x.kind) (.string x.name) (.int .i64 x.var) (.slice Ax x.args.length cx); have hB7s := hB7.keeps hK6 (fun e => hs.ne _ _ rfl rfl e.symm); have q0 := hB7s.cell (i := 0) rfl; have q1 := hB7s.cell (i := 1) rfl; have q2 := hB7s.cell (i := 2) rfl; have q3 := hB7s.cell (i := 3) rfl; have h0 := hB7s.free 0; have h1 := hB7s.free 1; have h2 := hB7s.free 2; have h3 := hB7s.free 3; go_simp)
                      refine hK.out _ _ (fun he => Bool.noConfusion (show false = true from he)) (fun hE => ?_)
                      clear hK K hE
                      try simp only [Act.put, List.setIfInBounds_toArray, List.set_cons_zero, List.set_cons_succ]
                      refine wpAnyT_done (by kernel_rfl) ?_ _
                      refine NoPanic.normal ?_
                      go_wp2_with fail
                      go_meet
                      exact ⟨_, _, Ax, cx, Ay, cy, rfl, rfl, hs.fin rfl⟩
                    exact AllT.nil
                  exact AllT.nil
                exact AllT.nil
              exact AllT.nil
            exact AllT.nil
          exact AllT.nil
        exact AllT.nil
      case rest =>
        obtain ⟨g1, g2, Ax, cx, Ay, cy, rfl, rfl, hbx, hby, hTx, hTy, hk6⟩ := hcut
        have hF1 := free_run hTx HN1.out
        have hF2 := free_run hTy HN2.out
        rw [HFx.out] at hF1
        rw [HFy.out] at hF2
        unfold tyV at hF1 hF2
        have HF1 := Lib.hid hF1
        have HF2 := Lib.hid hF2
        have HQ10 : Hid (∀ X, Keeps (fun _ => False) wc X → (X.cell? ⟨g1, 0, none⟩ = some (.int .i64 x.kind) ∧ X.cell? ⟨g1, 1, none⟩ = some (.string x.name) ∧ X.cell? ⟨g1, 2, none⟩ = some (.int .i64 x.var) ∧ X.cell? ⟨g1, 3, none⟩ = some (.slice Ax x.args.length cx) ∧ X.cell? ⟨g2, 0, none⟩ = some (.int .i64 y.kind) ∧ X.cell? ⟨g2, 1, none⟩ = some (.string y.name) ∧ X.cell? ⟨g2, 2, none⟩ = some (.int .i64 y.var) ∧ X.cell? ⟨g2, 3, none⟩ = some (.slice Ay y.args.length cy))) := fun X hk => ⟨hk.cell (hbx.cell (i := 0) rfl) (fun h => h), hk.cell (hbx.cell (i := 1) rfl) (fun h => h), hk.cell (hbx.cell (i := 2) rfl) (fun h => h), hk.cell (hbx.cell (i := 3) rfl) (fun h => h), hk.cell (hby.cell (i := 0) rfl) (fun h => h), hk.cell (hby.cell (i := 1) rfl) (fun h => h), hk.cell (hby.cell (i := 2) rfl) (fun h => h), hk.cell (hby.cell (i := 3) rfl) (fun h => h)⟩
        have HK6 := Lib.hid (HK5.out.trans hk6 (fun _ _ h => h))
        have hln : (((fl : Nat) : Int) == ((fl : Nat) : Int)) = true := by simp
        clear hF1 hF2 hbx hby hTx hTy hk6
        go_wp2_with fail
        go_region_held3 (fun X => X.cell? ⟨g1, 0, none⟩ = some (.int .i64 x.kind) ∧ X.cell? ⟨g1, 1, none⟩ = some (.string x.name) ∧ X.cell? ⟨g1, 2, none⟩ = some (.int .i64 x.var) ∧ X.cell? ⟨g1, 3, none⟩ = some (.slice Ax x.args.length cx) ∧ X.cell? ⟨g2, 0, none⟩ = some (.int .i64 y.kind) ∧ X.cell? ⟨g2, 1, none⟩ = some (.string y.name) ∧ X.cell? ⟨g2, 2, none⟩ = some (.int .i64 y.var) ∧ X.cell? ⟨g2, 3, none⟩ = some (.slice Ay y.args.length cy))
          (exact HQ10.out _ (by repeat (first | (with_reducible assumption) | (with_reducible exact Keeps.refl _ _) | (with_reducible refine Keeps.drewN ?_ _) | (with_reducible refine Keeps.drew ?_) | with_reducible refine Keeps.setCell ?_ (by first | (intro _; exact rfl) | (intro _; exact Or.inl rfl) | (intro _; exact Or.inr rfl) | (simp; done) | (simp; omega)) _ | (with_reducible refine Keeps.alloc ?_ _))))
          (first
            | (go_at_call 10; with_reducible refine (HF1.out _ (by repeat (first | (with_reducible assumption) | (with_reducible exact Keeps.refl _ _) | (with_reducible refine Keeps.drewN ?_ _) | (with_reducible refine Keeps.drew ?_) | with_reducible refine Keeps.setCell ?_ (by first | (intro _; exact rfl) | (intro _; exact Or.inl rfl) | (intro _; exact Or.inr rfl) | (simp; done) | (simp; omega)) _ | (with_reducible refine Keeps.alloc ?_ _)))).mono ?_; rintro e wa ⟨⟨Ba, da, rfl⟩, hka⟩)
            | (go_at_call 10; with_reducible refine (HF2.out _ (by repeat (first | (with_reducible assumption) | (with_reducible exact Keeps.refl _ _) | (with_reducible refine Keeps.drewN ?_ _) | (with_reducible refine Keeps.drew ?_) | with_reducible refine Keeps.setCell ?_ (by first | (intro _; exact rfl) | (intro _; exact Or.inl rfl) | (intro _; exact Or.inr rfl) | (simp; done) | (simp; omega)) _ | (with_reducible refine Keeps.alloc ?_ _)))).mono ?_; rintro e wb ⟨⟨Bb, db, rfl⟩, hkb⟩))
        all_goals go_wp2_with fail
        all_goals go_ret
        all_goals exact ⟨rfl, (Keeps.trans (HK3.out.trans HK6.out (fun _ _ h => h)) (show Keeps (fun _ => False) wc _ from (by repeat (first | (with_reducible assumption) | (with_reducible exact Keeps.refl _ _) | (with_reducible refine Keeps.drewN ?_ _) | (with_reducible refine Keeps.drew ?_) | with_reducible refine Keeps.setCell ?_ (by first | (intro _; exact rfl) | (intro _; exact Or.inl rfl) | (intro _; exact Or.inr rfl) | (simp; done) | (simp; omega)) _ | (with_reducible refine Keeps.alloc ?_ _)))) (fun _ _ h => h)).below (fun _ h => h.elim) (Nat.le_refl _)⟩

theorem own : ownKnob Tryd.prog.godebug = none := by kernel_rfl
theorem gSizes : Tryd.prog.globalNamed "provenance/unify.sizes" = some 0 := by kernel_rfl
theorem szs_of_laid {W : World} (h : laidMetH Tryd.prog Rows.unifySymmetricRow.laid W) : Szs W := by
  have h2 : laidMetH Tryd.prog [("provenance/unify.sizes", Lib.tabData .i64 [0, -1, 3, 1, 0, 2])] W := h
  rw [MakeChecks.laidMetH_plain _ _ _ (by kernel_rfl)] at h2
  have ht := Lib.tabIs_of_head gSizes (by kernel_rfl) Tryd.underlying51 Tryd.underlying3 (by kernel_rfl) (by kernel_rfl) h2
  unfold Lib.TabIs at ht
  exact ⟨by rw [World.var?_cell gSizes ht]; rfl, by rw [World.var?_cell gSizes ht]; rfl, by rw [World.var?_cell gSizes ht]; rfl, by rw [World.var?_cell gSizes ht]; rfl, by rw [World.var?_cell gSizes ht]; rfl, by rw [World.var?_cell gSizes ht]; rfl⟩

theorem laid : laidOutB Tryd.prog = true := by kernel_rfl

set_option maxRecDepth 100000 in
theorem lifted (os : Os) (started : os.Started) (H : Type) (enc : TypeId × Value → H) :
    ReturnsInHanded {} Tryd.checked os 3 .any (fun w args => (Rows.unifySymmetricSpec.pre enc Tryd.prog Tryd.f3 [] false w args ∧ laidMetH Tryd.prog Rows.unifySymmetricRow.laid w) ∧ sizedMet enc Tryd.prog Tryd.f3 (OpenSpec.ofChange Rows.unifySymmetricSpec) false w args)
      (Rows.unifySymmetricSpec.post enc Tryd.prog Tryd.f3 false true false false) := by
  refine handed_shaped_laid (C := Tryd.checked) (L := Rows.unifySymmetricRow.laid) own started (by kernel_rfl) Tryd.func3
    (ChangeSpec.witness_shaped (enc := enc) (C := Tryd.checked) (os := os) (X := fun w _ => laidMetH Tryd.prog Rows.unifySymmetricRow.laid w) false (World.laidAll Tryd.prog os Rows.unifySymmetricRow.laid) #[.agg #[.int .i64 0, .string ⟨#[]⟩, .int .i64 0, .slice none 0 0], .agg #[.int .i64 0, .string ⟨#[]⟩, .int .i64 0, .slice none 0 0]] 8 (World.laidAll_os _ _ _)
      (World.shaped_of_ZipB (by kernel_rfl) (by kernel_rfl)) (by kernel_rfl) (by kernel_rfl) (by kernel_rfl)
      (by rw [MakeChecks.laidMetH_plain _ _ _ (by kernel_rfl)]; exact laidMet_laidAll _ (by kernel_rfl) (by kernel_rfl))) ?_
  intro W base args ds gs before hval0 hW hsz0 _ hlaid
  have hz := szs_of_laid hlaid
  have hval : ∀ (j : Nat) t v, Tryd.f3.params[j]? = some t → args[j]? = some v → Value.okWide Tryd.prog W .any base t v := hval0
  have hW' := hW
  obtain ⟨p, q, hA0, hV, hbef, hfz, hnd⟩ := hW
  have hA : DataW.TrodAll enc Tryd.prog W 0 (fun _ => true) true Tryd.f3.params.toList args.toList ds p := hA0
  rw [Tryd.params3] at hA hval
  obtain ⟨v0, vs0, d0, ds0, p0, q0, hargs, hds, rfl, h0, r0⟩ := trodAll_cons hA
  obtain ⟨v1, vs1, d1, ds1, p1, q1, rfl, rfl, rfl, h1, r1⟩ := trodAll_cons r0
  obtain ⟨rfl, rfl, rfl⟩ := trodAll_nil r1
  obtain rfl : args = #[v0, v1] := by cases args; simp_all
  obtain ⟨rfl, _⟩ := trodVars_none hV
  subst hds
  obtain ⟨a0, c0, rfl, s0⟩ := rp_of_arg (f := tyD) Tryd.underlying24 (fun _ _ _ h => tyD.of_trod _ h) (hval 0 24 v0 rfl rfl) h0
  obtain ⟨av0, rfl, T0⟩ := tyD.rp.1 s0
  obtain ⟨a1, c1, rfl, s1⟩ := rp_of_arg (f := tyD) Tryd.underlying24 (fun _ _ _ h => tyD.of_trod _ h) (hval 1 24 v1 rfl rfl) h1
  obtain ⟨av1, rfl, T1⟩ := tyD.rp.1 s1
  refine (walk a0 a1 av0 av1 W T0 T1 hz).mono fun e W' ⟨he, hb⟩ => ?_
  subst he
  exact ⟨_, rfl, law_post laid (by kernel_rfl) rfl Tryd.underlying4 rfl rfl rfl rfl hW' hb⟩

theorem over : Rows.unifySymmetricRow.holds Tryd.pinned (OpenSpec.ofChange Rows.unifySymmetricSpec) :=
  OpenClaim.holds_of_wide 3 Tryd.f3 rfl rfl rfl rfl rfl rfl rfl ⟨rfl, rfl, rfl, rfl, rfl⟩ rfl rfl rfl rfl rfl (by kernel_rfl) Tryd.func3 (by kernel_rfl)
    (of_decide_eq_true (by kernel_rfl)) (by unfold Func.isWrapper; first | (rw [if_pos (by decide +kernel)]; kernel_rfl) | (rw [if_neg (by decide +kernel)]; exact ⟨rfl, rfl⟩))
    (fun os started H enc _ => lifted os started H enc)

theorem proved : Rows.UnifySymmetricCardSaid :=
  Claim7.holds_tied_plain_at .later [] [.data] true Rows.unifySymmetricCard.stood.harness false over (fun _ h => by cases h) (by kernel_rfl) (fun _ h => by cases h) unifySymmetric_row_tie rfl ⟨rfl, rfl⟩ (by kernel_rfl) rfl
    (fun f fn hf hfn => by
      obtain rfl : f = 3 := Option.some.inj ((show Tryd.prog.funcNamed Tryd.f3.name = some 3 by kernel_rfl).symm.trans hf) |>.symm
      obtain rfl : fn = Tryd.f3 := (Option.some.inj (Tryd.func3.symm.trans hfn)).symm
      exact ⟨by kernel_rfl, fun j t ht => by
        rw [Tryd.params3] at ht
        have hm : t ∈ [24] := by simpa using Array.mem_of_getElem? ht
        have hall : ([24].all fun u => !Tryd.prog.wantsStandIn u) = true := by kernel_rfl
        exact (show Tryd.prog.wantsStandIn t = false by simpa using List.all_eq_true.1 hall t hm)⟩)
    (by kernel_rfl)
#print axioms proved
end Go.Proofs.YthchnabhbpdfgaaDoor.unifySymmetric

