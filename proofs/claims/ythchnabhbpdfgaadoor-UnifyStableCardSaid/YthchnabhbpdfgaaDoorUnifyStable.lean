/- UnifyStable: whatever the input, the law answers true. The card ties the variable unify.sizes to the program's text. -/
import Derived.Test.YthchnabhbpdfgaaDoorMRun
import Derived.Test.YthchnabhbpdfgaaDoorTill
import Derived.Test.YthchnabhbpdfgaaDoorMStb
import Derived.Test.YthchnabhbpdfgaaDoorHigh
import Derived.Test.YthchnabhbpdfgaaDoorHanded
import Derived.Deep.RegionHeld3
import Derived.Deep.DeepCutAuto
import Derived.Deep.RegionWith
import Derived.Lib.LaidTab
import Derived.LaidSub
namespace Go.Proofs.YthchnabhbpdfgaaDoor.unifyStable
open Go.RowKit Go.Shelf Go.ChangeShapes Go.WideShapes Go.Sort Stab Go.Proofs.YthchnabhbpdfgaaDoor


theorem nof {P : Prop} (h : false = true) : P := Bool.noConfusion h
set_option maxRecDepth 100000 in
set_option maxHeartbeats 16000000 in
theorem walk (a b : Ty) (av bv : Value) (W : World) (hTa : TyC W (· < W.heap.size) a av) (hTb : TyC W (· < W.heap.size) b bv) (hz : Szs W) :
    Calls Tryd.prog 4 #[tyV a av, tyV b bv] W fun e w' => e = .returned (.bool true) ∧ Below W.heap.size W w' := by
  obtain ⟨Aa, ca, rfl, _⟩ := hTa.form
  obtain ⟨Ab, cb, rfl, _⟩ := hTb.form
  obtain ⟨b0, hb0⟩ : ∃ b0, W.heap.size = b0 := ⟨_, rfl⟩
  obtain ⟨W0, hW0⟩ : ∃ W0, ((W.alloc (.cells #[.int .i64 a.kind, .string a.name, .int .i64 a.var, .slice Aa a.args.length ca] 24)).alloc (.cells #[.int .i64 b.kind, .string b.name, .int .i64 b.var, .slice Ab b.args.length cb] 24)) = W0 := ⟨_, rfl⟩
  have hk0 : Keeps (fun _ => False) W W0 := by rw [← hW0]; exact ((Keeps.refl _ _).alloc _).alloc _
  have hXa : Blk W0 (b0) 24 [.int .i64 a.kind, .string a.name, .int .i64 a.var, .slice Aa a.args.length ca] := by
    have := (Blk.new W 24 [.int .i64 a.kind, .string a.name, .int .i64 a.var, .slice Aa a.args.length ca]).alloc (.cells #[.int .i64 b.kind, .string b.name, .int .i64 b.var, .slice Ab b.args.length cb] 24)
    rw [hW0] at this
    simpa [hb0] using this
  have hXb : Blk W0 (b0 + 1) 24 [.int .i64 b.kind, .string b.name, .int .i64 b.var, .slice Ab b.args.length cb] := by
    have := Blk.new (W.alloc (.cells #[.int .i64 a.kind, .string a.name, .int .i64 a.var, .slice Aa a.args.length ca] 24)) 24 [.int .i64 b.kind, .string b.name, .int .i64 b.var, .slice Ab b.args.length cb]
    rw [hW0] at this
    simpa [hb0] using this
  have hs0 := hk0.size
  have ra0 := hXa.cell (i := 0) rfl
  have ra1 := hXa.cell (i := 1) rfl
  have ra2 := hXa.cell (i := 2) rfl
  have ra3 := hXa.cell (i := 3) rfl
  have rb0 := hXb.cell (i := 0) rfl
  have rb1 := hXb.cell (i := 1) rfl
  have rb2 := hXb.cell (i := 2) rfl
  have rb3 := hXb.cell (i := 3) rfl
  have HXa := Lib.hid hXa
  have HTa := Lib.hid ((hTa.keeps hk0 (fun _ _ h => h)).mono (fun b hb => Nat.lt_of_lt_of_le hb hs0) : TyC W0 (All W0) a _)
  have HXb := Lib.hid hXb
  have HTb := Lib.hid ((hTb.keeps hk0 (fun _ _ h => h)).mono (fun b hb => Nat.lt_of_lt_of_le hb hs0) : TyC W0 (All W0) b _)
  have HZ := Lib.hid (hz.keeps hk0 (fun h => h))
  have HK0 := Lib.hid hk0
  have HW0 := Lib.hid hW0
  have HB0 := Lib.hid hb0
  unfold tyV
  clear hz hk0 hW0 hb0 hs0 hTa hXa hTb hXb
  go_enter Tryd.func4, Tryd.ntmps4
  go_wp2_with fail
  rw [HW0.out, HB0.out]
  go_wp2_with fail
  refine (pair_any W0 a b Aa Ab ca cb).mono ?_
  rintro e w1 ⟨sv, rfl, hs1, hb1⟩
  obtain ⟨As, cs, rfl, _⟩ := hs1.form
  rw [idS_len]
  have HK1 := Lib.hid (Keeps.of_below (X := fun _ => False) hb1)
  have HS1 := Lib.hid (hs1.mono (fun b hb => hb.2) : Sl w1 (All w1) tyD (idS 12) _)
  clear hs1 hb1
  go_wp2_with fail
  with_reducible refine (num_any _).mono ?_
  rintro e w2 ⟨rfl, hk2⟩
  obtain ⟨σ0, hu0, hl0, hg0⟩ := first_var (v := 0) (by decide)
  have HK12 := Lib.hid (HK1.out.trans hk2 (fun _ _ h => h))
  have HU0 : Hid (Calls Tryd.prog 7 #[.slice As 12 cs, .agg #[.int .i64 0, .string ⟨#[]⟩, .int .i64 0, .slice none 0 0], tyV numT (.slice none 0 0)] w2 (URun w2 0 σ0)) := by
    have h := unify_run (sl_all HS1.out hk2) (HZ.out.keeps HK12.out (fun h => h)) (by rw [idS_len]; decide) (varT_ok (wfI_nat (j := 0) (by decide))) num_ok hu0 w2 (Keeps.refl _ _)
    rw [idS_len] at h
    exact h
  have HS2 := Lib.hid (sl_all HS1.out hk2)
  clear hk2 hu0
  go_wp2_with fail
  refine HU0.out.mono ?_
  rintro e w3 ⟨hk3, h3⟩
  rcases h3 with ⟨h3, _⟩ | ⟨_, gt, ct, rfl, hSt⟩
  · exact absurd rfl h3
  obtain ⟨gx, offx, xv, hadr, hgx, x0, x1, x2, x3, hTx⟩ := tyD.get hSt (i := 0) (by rw [hl0]; decide)
  simp only [Option.some.injEq, Addr.mk.injEq, and_true] at hadr
  obtain ⟨rfl, rfl⟩ := hadr
  have hgk : σ0[0] = numT := by
    rw [List.getElem?_eq_getElem (by rw [hl0]; decide)] at hg0
    exact Option.some.inj hg0
  rw [hgk] at x0
  rw [hl0]
  have HK03 := Lib.hid (HK12.out.trans hk3 (fun _ _ h => h))
  have HS3 := Lib.hid (sl_all HS2.out hk3)
  have HZ3 := Lib.hid (HZ.out.keeps HK03.out (fun h => h))
  have HTa3 := Lib.hid (tyc_all HTa.out HK03.out)
  have HXa3 := Lib.hid (HXa.out.keeps HK03.out (fun h => h))
  have HTb3 := Lib.hid (tyc_all HTb.out HK03.out)
  have HXb3 := Lib.hid (HXb.out.keeps HK03.out (fun h => h))
  clear ra0 ra1 ra2 ra3 rb0 rb1 rb2 rb3
  have hxa := HXa3.out
  have ra0 := hxa.cell (i := 0) rfl
  have ra1 := hxa.cell (i := 1) rfl
  have ra2 := hxa.cell (i := 2) rfl
  have ra3 := hxa.cell (i := 3) rfl
  have hxb := HXb3.out
  have rb0 := hxb.cell (i := 0) rfl
  have rb1 := hxb.cell (i := 1) rfl
  have rb2 := hxb.cell (i := 2) rfl
  have rb3 := hxb.cell (i := 3) rfl
  clear hxa hxb
  have HK3 := Lib.hid (HK0.out.trans HK03.out (fun _ _ h => h))
  clear hgk hg0 x0 hl0 x1 x2 x3 hTx hgx hSt hk3
  have hHa := fun (X : World) (hk : Keeps (fun _ => False) w3 X) => high_any a X _ _ (tyc_all HTa3.out hk)
  have hHb := fun (X : World) (hk : Keeps (fun _ => False) w3 X) => high_any b X _ _ (tyc_all HTb3.out hk)
  unfold tyV at hHa hHb
  have HHa := Lib.hid hHa
  have HHb := Lib.hid hHb
  clear hHa hHb
  go_wp2_with fail
  with_reducible refine (HHa.out _ (Keeps.refl _ _)).mono ?_
  rintro e wh ⟨⟨ha, rfl, hra⟩, hkh⟩
  clear ra0 ra1 ra2 ra3 rb0 rb1 rb2 rb3
  have hxa := HXa3.out.keeps hkh (fun h => h)
  have ra0 := hxa.cell (i := 0) rfl
  have ra1 := hxa.cell (i := 1) rfl
  have ra2 := hxa.cell (i := 2) rfl
  have ra3 := hxa.cell (i := 3) rfl
  have hxb := HXb3.out.keeps hkh (fun h => h)
  have rb0 := hxb.cell (i := 0) rfl
  have rb1 := hxb.cell (i := 1) rfl
  have rb2 := hxb.cell (i := 2) rfl
  have rb3 := hxb.cell (i := 3) rfl
  clear hxa hxb
  have HKH := Lib.hid hkh
  have HRa := Lib.hid hra.out
  clear hkh hra
  by_cases h25a : 25 < ha
  · go_wp2_with fail
    go_ret
    exact ⟨rfl, (HK3.out.trans HKH.out (fun _ _ h => h)).below (fun i h => h.elim) (Nat.le_refl _)⟩
  have k25a' : decide (25 < ha) = false := by simpa using h25a
  go_wp2_with fail
  with_reducible refine (HHb.out _ HKH.out).mono ?_
  rintro e wi ⟨⟨hb, rfl, hrb⟩, hki⟩
  clear ra0 ra1 ra2 ra3 rb0 rb1 rb2 rb3
  have hxa := (HXa3.out.keeps HKH.out (fun h => h)).keeps hki (fun h => h)
  have ra0 := hxa.cell (i := 0) rfl
  have ra1 := hxa.cell (i := 1) rfl
  have ra2 := hxa.cell (i := 2) rfl
  have ra3 := hxa.cell (i := 3) rfl
  have hxb := (HXb3.out.keeps HKH.out (fun h => h)).keeps hki (fun h => h)
  have rb0 := hxb.cell (i := 0) rfl
  have rb1 := hxb.cell (i := 1) rfl
  have rb2 := hxb.cell (i := 2) rfl
  have rb3 := hxb.cell (i := 3) rfl
  clear hxa hxb
  have HKI := Lib.hid (HKH.out.trans hki (fun _ _ h => h))
  have HRb := Lib.hid hrb.out
  clear hki hrb
  by_cases h25b : 25 < hb
  · go_wp2_with fail
    go_ret
    exact ⟨rfl, (HK3.out.trans HKI.out (fun _ _ h => h)).below (fun i h => h.elim) (Nat.le_refl _)⟩
  have k25b' : decide (25 < hb) = false := by simpa using h25b
  have H25a := Lib.hid h25a
  have H25b := Lib.hid h25b
  obtain ⟨ka, qa, e1, τ, hu1⟩ := unifyS_total (idS 12) a b
  have hU1 := unify_run (sl_all HS3.out HKI.out) (HZ3.out.keeps HKI.out (fun h => h)) (by rw [idS_len]; decide) (tyc_all HTa3.out HKI.out) (tyc_all HTb3.out HKI.out) hu1
  rw [idS_len] at hU1
  unfold tyV at hU1
  have HU1 := Lib.hid hU1
  have Hu1 := Lib.hid hu1
  clear hU1 hu1
  go_wp2_with fail
  with_reducible refine (HU1.out _ (Keeps.refl _ _)).mono ?_
  rintro e w4 ⟨hk4, h4⟩
  clear ra0 ra1 ra2 ra3 rb0 rb1 rb2 rb3
  have hxa := (HXa3.out.keeps HKI.out (fun h => h)).keeps hk4 (fun h => h)
  have ra0 := hxa.cell (i := 0) rfl
  have ra1 := hxa.cell (i := 1) rfl
  have ra2 := hxa.cell (i := 2) rfl
  have ra3 := hxa.cell (i := 3) rfl
  have hxb := (HXb3.out.keeps HKI.out (fun h => h)).keeps hk4 (fun h => h)
  have rb0 := hxb.cell (i := 0) rfl
  have rb1 := hxb.cell (i := 1) rfl
  have rb2 := hxb.cell (i := 2) rfl
  have rb3 := hxb.cell (i := 3) rfl
  clear hxa hxb
  have HK4 := Lib.hid (HKI.out.trans hk4 (fun _ _ h => h))
  clear hk4
  rcases h4 with ⟨h1, rfl⟩ | ⟨rfl, g4, c4, rfl, hS4⟩
  · have k1 : (e1 != 0) = true := by rw [bne_iff_ne]; exact h1
    clear h1
    go_wp2_with fail
    go_ret
    exact ⟨rfl, (HK3.out.trans HK4.out (fun _ _ h => h)).below (fun i h => h.elim) (Nat.le_refl _)⟩
  · have ho1 := unifyS_out Hu1.out
    have hlen1 := ho1.step.keep.len
    rw [idS_len] at hlen1
    have hDa : dep a ≤ 25 := by
      have h1 := tyErr_dep ho1.inn.a
      have h2 := HRa.out (by omega)
      have h3 := H25a.out
      have h4 := high_dep a (by omega)
      omega
    have hDb : dep b ≤ 25 := by
      have h1 := tyErr_dep ho1.inn.b
      have h2 := HRb.out (by omega)
      have h3 := H25b.out
      have h4 := high_dep b (by omega)
      omega
    obtain ⟨kb, qb, hu2⟩ := again Hu1.out hDa hDb
    have hva := ho1.step.vin ho1.inn.va
    have hvb := ho1.step.vin ho1.inn.vb
    have wA := ho1.gd.apwf ho1.inn.wa
    have wB := ho1.gd.apwf ho1.inn.wb
    have nA : nodes (ap τ a) ≤ 33554432 := by have := ho1.szd.nodes ho1.gd a hva; have := ho1.inn.na; omega
    have nB : nodes (ap τ b) ≤ 33554432 := by have := ho1.szd.nodes ho1.gd b hvb; have := ho1.inn.nb; omega
    have eAB := ho1.same
    have hid2 : ap τ (ap τ a) = ap τ a := keep_ap ho1.gd ho1.gd (Keep.refl τ) a hva
    have hvx : VIn τ (ap τ a) := fun v hv => by
      have := ho1.gd.free a hva v hv
      exact ⟨this.1, this.2.1⟩
    have hA1 := apply_run5 ho1.gd ho1.szd hS4 (tyc_all HTa3.out HK4.out) ho1.inn.wa hva (by have := ho1.inn.na; omega)
    have hA2 := apply_run5 ho1.gd ho1.szd hS4 (tyc_all HTb3.out HK4.out) ho1.inn.wb hvb (by have := ho1.inn.nb; omega)
    have hU2 := fun (B : World) (hB : Keeps (fun _ => False) w4 B) => unify_run (sl_all hS4 hB) (HZ3.out.keeps (HK4.out.trans hB (fun _ _ h => h)) (fun h => h)) (by omega) (tyc_all (tyc_all HTa3.out HK4.out) hB) (tyc_all (tyc_all HTb3.out HK4.out) hB) hu2
    have hA3 := fun (B : World) (hB : Keeps (fun _ => False) w4 B) (A : Option Addr) (cc : Nat) (h1 : TyC B (All B) (ap τ a) (.slice A (ap τ a).args.length cc)) => apply_run ho1.gd ho1.szd (sl_all hS4 hB) h1 wA hvx nA
    obtain ⟨x, hx⟩ : ∃ x, ap τ a = x := ⟨_, rfl⟩
    obtain ⟨y, hy⟩ : ∃ y, ap τ b = y := ⟨_, rfl⟩
    obtain ⟨L1, hL1⟩ : ∃ L, τ.length = L := ⟨_, rfl⟩
    rw [hL1] at hU2 hS4 hlen1 hA1 hA2 hA3 ⊢
    rw [hx] at hA1 hA3 hid2 wA nA eAB
    rw [hid2] at hA3
    rw [hy] at hA2 wB nB eAB
    have hS1 := fun (B : World) (A : Option Addr) (cc : Nat) (A' : Option Addr) (cc' : Nat) (h1 : TyC B (All B) x (.slice A x.args.length cc)) (h2 : TyC B (All B) y (.slice A' y.args.length cc')) => same_run h1 h2 wA wB nA nB eAB
    have hS2 := fun (B : World) (A : Option Addr) (cc : Nat) (A' : Option Addr) (cc' : Nat) (h1 : TyC B (All B) x (.slice A x.args.length cc)) (h2 : TyC B (All B) x (.slice A' x.args.length cc')) => same_run h1 h2 wA wA nA nA rfl
    unfold tyV at hA1 hA2 hA3 hU2 hS1 hS2
    unfold ARun5 at hA1 hA2
    unfold ARun at hA3
    have HL1 := Lib.hid hL1
    have HA1 := Lib.hid hA1
    have HA2 := Lib.hid hA2
    have HA3 := Lib.hid hA3
    have HU2 := Lib.hid hU2
    have HS1 := Lib.hid hS1
    have HS2 := Lib.hid hS2
    have HQ9 : Hid (∀ X, Keeps (fun _ => False) w4 X → (X.cell? ⟨b0, 0, none⟩ = some (.int .i64 a.kind) ∧ X.cell? ⟨b0, 1, none⟩ = some (.string a.name) ∧ X.cell? ⟨b0, 2, none⟩ = some (.int .i64 a.var) ∧ X.cell? ⟨b0, 3, none⟩ = some (.slice Aa a.args.length ca) ∧ X.cell? ⟨b0 + 1, 0, none⟩ = some (.int .i64 b.kind) ∧ X.cell? ⟨b0 + 1, 1, none⟩ = some (.string b.name) ∧ X.cell? ⟨b0 + 1, 2, none⟩ = some (.int .i64 b.var) ∧ X.cell? ⟨b0 + 1, 3, none⟩ = some (.slice Ab b.args.length cb))) := fun X hk => ⟨hk.cell ra0 (fun h => h), hk.cell ra1 (fun h => h), hk.cell ra2 (fun h => h), hk.cell ra3 (fun h => h), hk.cell rb0 (fun h => h), hk.cell rb1 (fun h => h), hk.cell rb2 (fun h => h), hk.cell rb3 (fun h => h)⟩
    clear hA1 hA2 hA3 hU2 hS1 hS2 hS4 hL1 hlen1 hDa hDb ho1 hu2 hva hvb wA wB nA nB eAB hid2 hvx hx hy ra0 ra1 ra2 ra3 rb0 rb1 rb2 rb3
    go_upto_region 10 with (fail)
    go_cut [11, 12] from 58 to 63 (fun v11 v12 wd => ∃ g1 g2 Ax cx Ay cy, v11 = .pointer (some ⟨g1, 0, none⟩) ∧ v12 = .pointer (some ⟨g2, 0, none⟩) ∧ Blk wd g1 24 [.int .i64 x.kind, .string x.name, .int .i64 x.var, .slice Ax x.args.length cx] ∧ Blk wd g2 24 [.int .i64 y.kind, .string y.name, .int .i64 y.var, .slice Ay y.args.length cy] ∧ TyC wd (All wd) x (.slice Ax x.args.length cx) ∧ TyC wd (All wd) y (.slice Ay y.args.length cy) ∧ Keeps (fun _ => False) w4 wd)
    case first =>
      have hs := R9.start w4
      refine wp_region_noPanic ?_
      refine wp_region_till [8, 9] (fun X => X.cell? ⟨b0, 0, none⟩ = some (.int .i64 a.kind) ∧ X.cell? ⟨b0, 1, none⟩ = some (.string a.name) ∧ X.cell? ⟨b0, 2, none⟩ = some (.int .i64 a.var) ∧ X.cell? ⟨b0, 3, none⟩ = some (.slice Aa a.args.length ca) ∧ X.cell? ⟨b0 + 1, 0, none⟩ = some (.int .i64 b.kind) ∧ X.cell? ⟨b0 + 1, 1, none⟩ = some (.string b.name) ∧ X.cell? ⟨b0 + 1, 2, none⟩ = some (.int .i64 b.var) ∧ X.cell? ⟨b0 + 1, 3, none⟩ = some (.slice Ab b.args.length cb)) (by kernel_rfl) ?_ (fun hE => ?_)
      · exact HQ9.out _ (by first | exact hs.kp | exact hs.drew.kp)
      have hS := hE (by kernel_rfl)
      refine wpAnyT_pure (i := 0) (oi := { dst := some 58, op := Op.move (Operand.tmp 9), type := 25, pos := "types.go:322", after := #[], guard := none }) (v := ?v10_0_1) rfl (by kernel_rfl) (fun _ _ _ h => h) (Or.inl ⟨by rfl, ?y10_0_1⟩) (fun _ => hS) ?_
      case y10_0_1 => (intro w hSw; go_simp; try with_reducible rfl)
      try simp only [Act.put, List.setIfInBounds_toArray, List.set_cons_zero, List.set_cons_succ]
      refine wpAnyT_take (i := 1) (oi := { dst := some 59, op := Op.load 24 (Operand.tmp 2), type := 24, pos := "types.go:322", after := #[], guard := none }) (v := ?v10_1_2) rfl (by kernel_rfl) (fun _ _ _ h => h) (Or.inl ⟨by rfl, ?y10_1_2⟩) hS ?_
      case y10_1_2 => (intro w hSw; (try dsimp only at hSw); go_simp; try with_reducible rfl)
      try simp only [Act.put, List.setIfInBounds_toArray, List.set_cons_zero, List.set_cons_succ]
      refine wpAnyT_pure (i := 3) (oi := { dst := some 61, op := Op.move (Operand.tmp 9), type := 25, pos := "types.go:322", after := #[], guard := none }) (v := ?v10_3_3) rfl (by kernel_rfl) (fun _ _ _ h => h) (Or.inl ⟨by rfl, ?y10_3_3⟩) (fun _ => hS) ?_
      case y10_3_3 => (intro w hSw; go_simp; try with_reducible rfl)
      try simp only [Act.put, List.setIfInBounds_toArray, List.set_cons_zero, List.set_cons_succ]
      refine wpAnyT_ready (rs := [2, 4, 6, 7]) (by kernel_rfl) rfl ?_
      refine AllT.cons (o := { dst := some 60, op := Op.call { callee := Callee.value (Operand.func 9), args := #[Operand.tmp 58, Operand.tmp 59], argTypes := #[25, 24] }, type := 24, pos := "types.go:322", after := #[⟨0, .data⟩, ⟨1, .data⟩], guard := none }) rfl (fun K hK => ?_) ?_
      · (go_simp; go_at_call 9; with_reducible refine (HA1.out _ (by first | exact hs.kp | exact hs.drew.kp)).mono ?_; rintro e wp ⟨Ax, cx, rfl, hT, hk⟩; (first | replace hs := hs.callx hT hk | replace hs := hs.drew.callx hT hk); clear hT hk; go_wp2_with fail)
        refine hK.out _ _ (fun _ => ?_) (fun hE => ?_)
        · exact HQ9.out _ (by first | exact hs.kp | exact hs.drew.kp)
        have hS := hE (by kernel_rfl)
        clear hK K hE
        try simp only [Act.put, List.setIfInBounds_toArray, List.set_cons_zero, List.set_cons_succ]
        refine wpAnyT_ready (rs := [4, 6, 7]) (by kernel_rfl) rfl ?_
        refine AllT.cons (o := { dst := some 62, op := Op.load 24 (Operand.tmp 3), type := 24, pos := "types.go:322", after := #[], guard := none }) rfl (fun K hK => ?_) ?_
        · go_simp
          refine hK.out _ _ (fun _ => ?_) (fun hE => ?_)
          · exact HQ9.out _ (by first | exact hs.kp | exact hs.drew.kp)
          have hS := hE (by kernel_rfl)
          clear hK K hE
          try simp only [Act.put, List.setIfInBounds_toArray, List.set_cons_zero, List.set_cons_succ]
          refine wpAnyT_ready (rs := [5, 6, 7]) (by kernel_rfl) rfl ?_
          refine AllT.cons (o := { dst := some 63, op := Op.call { callee := Callee.value (Operand.func 9), args := #[Operand.tmp 61, Operand.tmp 62], argTypes := #[25, 24] }, type := 24, pos := "types.go:322", after := #[⟨3, .data⟩, ⟨4, .data⟩, ⟨2, .chain⟩], guard := none }) rfl (fun K hK => ?_) ?_
          · (go_simp; go_at_call 9; with_reducible refine (HA2.out _ (by first | exact hs.kp | exact hs.drew.kp)).mono ?_; rintro e wr ⟨Ay, cy, rfl, hT, hk⟩; (first | replace hs := hs.cally hT hk | replace hs := hs.drew.cally hT hk); clear hT hk; go_wp2_with fail)
            refine hK.out _ _ (fun _ => ?_) (fun hE => ?_)
            · exact HQ9.out _ (by first | exact hs.kp | exact hs.drew.kp)
            have hS := hE (by kernel_rfl)
            clear hK K hE
            try simp only [Act.put, List.setIfInBounds_toArray, List.set_cons_zero, List.set_cons_succ]
            refine wpAnyT_ready (rs := [6, 7]) (by kernel_rfl) rfl ?_
            refine AllT.cons (o := { dst := some 11, op := Op.alloc 24, type := 0, pos := "types.go:322", after := #[], guard := none }) rfl (fun K hK => ?_) ?_
            · (go_simp; refine name_world ?_; intro wz6 hw; (first | replace hs := hs.box6 hw | replace hs := hs.drew.box6 hw | replace hs := hs.box6d hw | replace hs := hs.drew.box6d hw); (try rw [drew_size] at hs); clear hw)
              refine hK.out _ _ (fun _ => ?_) (fun hE => ?_)
              · exact HQ9.out _ (by first | exact hs.kp | exact hs.drew.kp)
              have hS := hE (by kernel_rfl)
              clear hK K hE
              try simp only [Act.put, List.setIfInBounds_toArray, List.set_cons_zero, List.set_cons_succ]
              refine wpAnyT_ready (rs := [7]) (by kernel_rfl) rfl ?_
              refine AllT.cons (o := { dst := some 12, op := Op.alloc 24, type := 0, pos := "types.go:322", after := #[], guard := none }) rfl (fun K hK => ?_) ?_
              · (go_simp; refine name_world ?_; intro wz7 hw; (first | replace hs := hs.box7 hw | replace hs := hs.drew.box7 hw | replace hs := hs.box7d hw | replace hs := hs.drew.box7d hw); (try rw [drew_size] at hs); clear hw)
                refine hK.out _ _ (fun _ => ?_) (fun hE => ?_)
                · exact HQ9.out _ (by first | exact hs.kp | exact hs.drew.kp)
                have hS := hE (by kernel_rfl)
                clear hK K hE
                try simp only [Act.put, List.setIfInBounds_toArray, List.set_cons_zero, List.set_cons_succ]
                refine wpAnyT_ready (rs := [8]) (by kernel_rfl) rfl ?_
                refine AllT.cons (o := { dst := none, op := Op.store 24 (Operand.tmp 11) (Operand.tmp 60), type := 0, pos := "types.go:322", after := #[⟨6, .data⟩, ⟨2, .data⟩, ⟨5, .chain⟩, ⟨0, .phase⟩, ⟨1, .phase⟩, ⟨2, .phase⟩, ⟨3, .textOnly .lateStores⟩, ⟨4, .textOnly .lateStores⟩, ⟨5, .textOnly .lateStoresUnsure⟩, ⟨6, .phase⟩, ⟨7, .phase⟩], guard := none }) rfl (fun K hK => ?_) ?_
                · (obtain ⟨hB6, -⟩ := hs.b6 _ rfl; have r0 := hB6.cell (i := 0) rfl; have r1 := hB6.cell (i := 1) rfl; have r2 := hB6.cell (i := 2) rfl; have r3 := hB6.cell (i := 3) rfl; have f0 := hB6.free 0; have f1 := hB6.free 1; have f2 := hB6.free 2; have f3 := hB6.free 3; go_simp)
                  refine hK.out _ _ (fun he => nof he) (fun hE => ?_)
                  clear hK K hE
                  try simp only [Act.put, List.setIfInBounds_toArray, List.set_cons_zero, List.set_cons_succ]
                  refine wpAnyT_ready (rs := [9]) (by kernel_rfl) rfl ?_
                  refine AllT.cons (o := { dst := none, op := Op.store 24 (Operand.tmp 12) (Operand.tmp 63), type := 0, pos := "types.go:322", after := #[⟨7, .data⟩, ⟨5, .data⟩, ⟨8, .chain⟩, ⟨0, .phase⟩, ⟨1, .phase⟩, ⟨2, .phase⟩, ⟨3, .phase⟩, ⟨4, .phase⟩, ⟨5, .phase⟩, ⟨6, .phase⟩, ⟨7, .phase⟩, ⟨8, .phase⟩], guard := none }) rfl (fun K hK => ?_) ?_
                  · (obtain ⟨hB6, -⟩ := hs.b6 _ rfl; obtain ⟨hB7, -⟩ := hs.b7 _ rfl; obtain ⟨-, hK6⟩ := four (show Blk _ _ _ [_, _, _, _] from hB6) (.int .i64 x.kind) (.string x.name) (.int .i64 x.var) (.slice Ax x.args.length cx); have hB7s := hB7.keeps hK6 (fun e => hs.ne _ _ rfl rfl e.symm); have q0 := hB7s.cell (i := 0) rfl; have q1 := hB7s.cell (i := 1) rfl; have q2 := hB7s.cell (i := 2) rfl; have q3 := hB7s.cell (i := 3) rfl; have h0 := hB7s.free 0; have h1 := hB7s.free 1; have h2 := hB7s.free 2; have h3 := hB7s.free 3; go_simp)
                    refine hK.out _ _ (fun he => nof he) (fun hE => ?_)
                    clear hK K hE
                    try simp only [Act.put, List.setIfInBounds_toArray, List.set_cons_zero, List.set_cons_succ]
                    refine wpAnyT_done (by kernel_rfl) ?_ _
                    refine NoPanic.normal ?_
                    go_wp2_with fail
                    go_meet
                    exact ⟨_, _, Ax, cx, Ay, cy, rfl, rfl, hs.fin rfl⟩
                  exact AllT.nil
                exact AllT.nil
              exact AllT.nil
            refine AllT.cons (o := { dst := some 12, op := Op.alloc 24, type := 0, pos := "types.go:322", after := #[], guard := none }) rfl (fun K hK => ?_) ?_
            · (go_simp; refine name_world ?_; intro wz7 hw; (first | replace hs := hs.box7 hw | replace hs := hs.drew.box7 hw | replace hs := hs.box7d hw | replace hs := hs.drew.box7d hw); (try rw [drew_size] at hs); clear hw)
              refine hK.out _ _ (fun _ => ?_) (fun hE => ?_)
              · exact HQ9.out _ (by first | exact hs.kp | exact hs.drew.kp)
              have hS := hE (by kernel_rfl)
              clear hK K hE
              try simp only [Act.put, List.setIfInBounds_toArray, List.set_cons_zero, List.set_cons_succ]
              refine wpAnyT_ready (rs := [6]) (by kernel_rfl) rfl ?_
              refine AllT.cons (o := { dst := some 11, op := Op.alloc 24, type := 0, pos := "types.go:322", after := #[], guard := none }) rfl (fun K hK => ?_) ?_
              · (go_simp; refine name_world ?_; intro wz6 hw; (first | replace hs := hs.box6 hw | replace hs := hs.drew.box6 hw | replace hs := hs.box6d hw | replace hs := hs.drew.box6d hw); (try rw [drew_size] at hs); clear hw)
                refine hK.out _ _ (fun _ => ?_) (fun hE => ?_)
                · exact HQ9.out _ (by first | exact hs.kp | exact hs.drew.kp)
                have hS := hE (by kernel_rfl)
                clear hK K hE
                try simp only [Act.put, List.setIfInBounds_toArray, List.set_cons_zero, List.set_cons_succ]
                refine wpAnyT_ready (rs := [8]) (by kernel_rfl) rfl ?_
                refine AllT.cons (o := { dst := none, op := Op.store 24 (Operand.tmp 11) (Operand.tmp 60), type := 0, pos := "types.go:322", after := #[⟨6, .data⟩, ⟨2, .data⟩, ⟨5, .chain⟩, ⟨0, .phase⟩, ⟨1, .phase⟩, ⟨2, .phase⟩, ⟨3, .textOnly .lateStores⟩, ⟨4, .textOnly .lateStores⟩, ⟨5, .textOnly .lateStoresUnsure⟩, ⟨6, .phase⟩, ⟨7, .phase⟩], guard := none }) rfl (fun K hK => ?_) ?_
                · (obtain ⟨hB6, -⟩ := hs.b6 _ rfl; have r0 := hB6.cell (i := 0) rfl; have r1 := hB6.cell (i := 1) rfl; have r2 := hB6.cell (i := 2) rfl; have r3 := hB6.cell (i := 3) rfl; have f0 := hB6.free 0; have f1 := hB6.free 1; have f2 := hB6.free 2; have f3 := hB6.free 3; go_simp)
                  refine hK.out _ _ (fun he => nof he) (fun hE => ?_)
                  clear hK K hE
                  try simp only [Act.put, List.setIfInBounds_toArray, List.set_cons_zero, List.set_cons_succ]
                  refine wpAnyT_ready (rs := [9]) (by kernel_rfl) rfl ?_
                  refine AllT.cons (o := { dst := none, op := Op.store 24 (Operand.tmp 12) (Operand.tmp 63), type := 0, pos := "types.go:322", after := #[⟨7, .data⟩, ⟨5, .data⟩, ⟨8, .chain⟩, ⟨0, .phase⟩, ⟨1, .phase⟩, ⟨2, .phase⟩, ⟨3, .phase⟩, ⟨4, .phase⟩, ⟨5, .phase⟩, ⟨6, .phase⟩, ⟨7, .phase⟩, ⟨8, .phase⟩], guard := none }) rfl (fun K hK => ?_) ?_
                  · (obtain ⟨hB6, -⟩ := hs.b6 _ rfl; obtain ⟨hB7, -⟩ := hs.b7 _ rfl; obtain ⟨-, hK6⟩ := four (show Blk _ _ _ [_, _, _, _] from hB6) (.int .i64 x.kind) (.string x.name) (.int .i64 x.var) (.slice Ax x.args.length cx); have hB7s := hB7.keeps hK6 (fun e => hs.ne _ _ rfl rfl e.symm); have q0 := hB7s.cell (i := 0) rfl; have q1 := hB7s.cell (i := 1) rfl; have q2 := hB7s.cell (i := 2) rfl; have q3 := hB7s.cell (i := 3) rfl; have h0 := hB7s.free 0; have h1 := hB7s.free 1; have h2 := hB7s.free 2; have h3 := hB7s.free 3; go_simp)
                    refine hK.out _ _ (fun he => nof he) (fun hE => ?_)
                    clear hK K hE
                    try simp only [Act.put, List.setIfInBounds_toArray, List.set_cons_zero, List.set_cons_succ]
                    refine wpAnyT_done (by kernel_rfl) ?_ _
                    refine NoPanic.normal ?_
                    go_wp2_with fail
                    go_meet
                    exact ⟨_, _, Ax, cx, Ay, cy, rfl, rfl, hs.fin rfl⟩
                  exact AllT.nil
                exact AllT.nil
              exact AllT.nil
            exact AllT.nil
          refine AllT.cons (o := { dst := some 11, op := Op.alloc 24, type := 0, pos := "types.go:322", after := #[], guard := none }) rfl (fun K hK => ?_) ?_
          · (go_simp; refine name_world ?_; intro wz6 hw; (first | replace hs := hs.box6 hw | replace hs := hs.drew.box6 hw | replace hs := hs.box6d hw | replace hs := hs.drew.box6d hw); (try rw [drew_size] at hs); clear hw)
            refine hK.out _ _ (fun _ => ?_) (fun hE => ?_)
            · exact HQ9.out _ (by first | exact hs.kp | exact hs.drew.kp)
            have hS := hE (by kernel_rfl)
            clear hK K hE
            try simp only [Act.put, List.setIfInBounds_toArray, List.set_cons_zero, List.set_cons_succ]
            refine wpAnyT_ready (rs := [5, 7]) (by kernel_rfl) rfl ?_
            refine AllT.cons (o := { dst := some 63, op := Op.call { callee := Callee.value (Operand.func 9), args := #[Operand.tmp 61, Operand.tmp 62], argTypes := #[25, 24] }, type := 24, pos := "types.go:322", after := #[⟨3, .data⟩, ⟨4, .data⟩, ⟨2, .chain⟩], guard := none }) rfl (fun K hK => ?_) ?_
            · (go_simp; go_at_call 9; with_reducible refine (HA2.out _ (by first | exact hs.kp | exact hs.drew.kp)).mono ?_; rintro e wr ⟨Ay, cy, rfl, hT, hk⟩; (first | replace hs := hs.cally hT hk | replace hs := hs.drew.cally hT hk); clear hT hk; go_wp2_with fail)
              refine hK.out _ _ (fun _ => ?_) (fun hE => ?_)
              · exact HQ9.out _ (by first | exact hs.kp | exact hs.drew.kp)
              have hS := hE (by kernel_rfl)
              clear hK K hE
              try simp only [Act.put, List.setIfInBounds_toArray, List.set_cons_zero, List.set_cons_succ]
              refine wpAnyT_ready (rs := [7]) (by kernel_rfl) rfl ?_
              refine AllT.cons (o := { dst := some 12, op := Op.alloc 24, type := 0, pos := "types.go:322", after := #[], guard := none }) rfl (fun K hK => ?_) ?_
              · (go_simp; refine name_world ?_; intro wz7 hw; (first | replace hs := hs.box7 hw | replace hs := hs.drew.box7 hw | replace hs := hs.box7d hw | replace hs := hs.drew.box7d hw); (try rw [drew_size] at hs); clear hw)
                refine hK.out _ _ (fun _ => ?_) (fun hE => ?_)
                · exact HQ9.out _ (by first | exact hs.kp | exact hs.drew.kp)
                have hS := hE (by kernel_rfl)
                clear hK K hE
                try simp only [Act.put, List.setIfInBounds_toArray, List.set_cons_zero, List.set_cons_succ]
                refine wpAnyT_ready (rs := [8]) (by kernel_rfl) rfl ?_
                refine AllT.cons (o := { dst := none, op := Op.store 24 (Operand.tmp 11) (Operand.tmp 60), type := 0, pos := "types.go:322", after := #[⟨6, .data⟩, ⟨2, .data⟩, ⟨5, .chain⟩, ⟨0, .phase⟩, ⟨1, .phase⟩, ⟨2, .phase⟩, ⟨3, .textOnly .lateStores⟩, ⟨4, .textOnly .lateStores⟩, ⟨5, .textOnly .lateStoresUnsure⟩, ⟨6, .phase⟩, ⟨7, .phase⟩], guard := none }) rfl (fun K hK => ?_) ?_
                · (obtain ⟨hB6, -⟩ := hs.b6 _ rfl; have r0 := hB6.cell (i := 0) rfl; have r1 := hB6.cell (i := 1) rfl; have r2 := hB6.cell (i := 2) rfl; have r3 := hB6.cell (i := 3) rfl; have f0 := hB6.free 0; have f1 := hB6.free 1; have f2 := hB6.free 2; have f3 := hB6.free 3; go_simp)
                  refine hK.out _ _ (fun he => nof he) (fun hE => ?_)
                  clear hK K hE
                  try simp only [Act.put, List.setIfInBounds_toArray, List.set_cons_zero, List.set_cons_succ]
                  refine wpAnyT_ready (rs := [9]) (by kernel_rfl) rfl ?_
                  refine AllT.cons (o := { dst := none, op := Op.store 24 (Operand.tmp 12) (Operand.tmp 63), type := 0, pos := "types.go:322", after := #[⟨7, .data⟩, ⟨5, .data⟩, ⟨8, .chain⟩, ⟨0, .phase⟩, ⟨1, .phase⟩, ⟨2, .phase⟩, ⟨3, .phase⟩, ⟨4, .phase⟩, ⟨5, .phase⟩, ⟨6, .phase⟩, ⟨7, .phase⟩, ⟨8, .phase⟩], guard := none }) rfl (fun K hK => ?_) ?_
                  · (obtain ⟨hB6, -⟩ := hs.b6 _ rfl; obtain ⟨hB7, -⟩ := hs.b7 _ rfl; obtain ⟨-, hK6⟩ := four (show Blk _ _ _ [_, _, _, _] from hB6) (.int .i64 x.kind) (.string x.name) (.int .i64 x.var) (.slice Ax x.args.length cx); have hB7s := hB7.keeps hK6 (fun e => hs.ne _ _ rfl rfl e.symm); have q0 := hB7s.cell (i := 0) rfl; have q1 := hB7s.cell (i := 1) rfl; have q2 := hB7s.cell (i := 2) rfl; have q3 := hB7s.cell (i := 3) rfl; have h0 := hB7s.free 0; have h1 := hB7s.free 1; have h2 := hB7s.free 2; have h3 := hB7s.free 3; go_simp)
                    refine hK.out _ _ (fun he => nof he) (fun hE => ?_)
                    clear hK K hE
                    try simp only [Act.put, List.setIfInBounds_toArray, List.set_cons_zero, List.set_cons_succ]
                    refine wpAnyT_done (by kernel_rfl) ?_ _
                    refine NoPanic.normal ?_
                    go_wp2_with fail
                    go_meet
                    exact ⟨_, _, Ax, cx, Ay, cy, rfl, rfl, hs.fin rfl⟩
                  exact AllT.nil
                exact AllT.nil
              exact AllT.nil
            refine AllT.cons (o := { dst := some 12, op := Op.alloc 24, type := 0, pos := "types.go:322", after := #[], guard := none }) rfl (fun K hK => ?_) ?_
            · (go_simp; refine name_world ?_; intro wz7 hw; (first | replace hs := hs.box7 hw | replace hs := hs.drew.box7 hw | replace hs := hs.box7d hw | replace hs := hs.drew.box7d hw); (try rw [drew_size] at hs); clear hw)
              refine hK.out _ _ (fun _ => ?_) (fun hE => ?_)
              · exact HQ9.out _ (by first | exact hs.kp | exact hs.drew.kp)
              have hS := hE (by kernel_rfl)
              clear hK K hE
              try simp only [Act.put, List.setIfInBounds_toArray, List.set_cons_zero, List.set_cons_succ]
              refine wpAnyT_ready (rs := [5]) (by kernel_rfl) rfl ?_
              refine AllT.cons (o := { dst := some 63, op := Op.call { callee := Callee.value (Operand.func 9), args := #[Operand.tmp 61, Operand.tmp 62], argTypes := #[25, 24] }, type := 24, pos := "types.go:322", after := #[⟨3, .data⟩, ⟨4, .data⟩, ⟨2, .chain⟩], guard := none }) rfl (fun K hK => ?_) ?_
              · (go_simp; go_at_call 9; with_reducible refine (HA2.out _ (by first | exact hs.kp | exact hs.drew.kp)).mono ?_; rintro e wr ⟨Ay, cy, rfl, hT, hk⟩; (first | replace hs := hs.cally hT hk | replace hs := hs.drew.cally hT hk); clear hT hk; go_wp2_with fail)
                refine hK.out _ _ (fun _ => ?_) (fun hE => ?_)
                · exact HQ9.out _ (by first | exact hs.kp | exact hs.drew.kp)
                have hS := hE (by kernel_rfl)
                clear hK K hE
                try simp only [Act.put, List.setIfInBounds_toArray, List.set_cons_zero, List.set_cons_succ]
                refine wpAnyT_ready (rs := [8]) (by kernel_rfl) rfl ?_
                refine AllT.cons (o := { dst := none, op := Op.store 24 (Operand.tmp 11) (Operand.tmp 60), type := 0, pos := "types.go:322", after := #[⟨6, .data⟩, ⟨2, .data⟩, ⟨5, .chain⟩, ⟨0, .phase⟩, ⟨1, .phase⟩, ⟨2, .phase⟩, ⟨3, .textOnly .lateStores⟩, ⟨4, .textOnly .lateStores⟩, ⟨5, .textOnly .lateStoresUnsure⟩, ⟨6, .phase⟩, ⟨7, .phase⟩], guard := none }) rfl (fun K hK => ?_) ?_
                · (obtain ⟨hB6, -⟩ := hs.b6 _ rfl; have r0 := hB6.cell (i := 0) rfl; have r1 := hB6.cell (i := 1) rfl; have r2 := hB6.cell (i := 2) rfl; have r3 := hB6.cell (i := 3) rfl; have f0 := hB6.free 0; have f1 := hB6.free 1; have f2 := hB6.free 2; have f3 := hB6.free 3; go_simp)
                  refine hK.out _ _ (fun he => nof he) (fun hE => ?_)
                  clear hK K hE
                  try simp only [Act.put, List.setIfInBounds_toArray, List.set_cons_zero, List.set_cons_succ]
                  refine wpAnyT_ready (rs := [9]) (by kernel_rfl) rfl ?_
                  refine AllT.cons (o := { dst := none, op := Op.store 24 (Operand.tmp 12) (Operand.tmp 63), type := 0, pos := "types.go:322", after := #[⟨7, .data⟩, ⟨5, .data⟩, ⟨8, .chain⟩, ⟨0, .phase⟩, ⟨1, .phase⟩, ⟨2, .phase⟩, ⟨3, .phase⟩, ⟨4, .phase⟩, ⟨5, .phase⟩, ⟨6, .phase⟩, ⟨7, .phase⟩, ⟨8, .phase⟩], guard := none }) rfl (fun K hK => ?_) ?_
                  · (obtain ⟨hB6, -⟩ := hs.b6 _ rfl; obtain ⟨hB7, -⟩ := hs.b7 _ rfl; obtain ⟨-, hK6⟩ := four (show Blk _ _ _ [_, _, _, _] from hB6) (.int .i64 x.kind) (.string x.name) (.int .i64 x.var) (.slice Ax x.args.length cx); have hB7s := hB7.keeps hK6 (fun e => hs.ne _ _ rfl rfl e.symm); have q0 := hB7s.cell (i := 0) rfl; have q1 := hB7s.cell (i := 1) rfl; have q2 := hB7s.cell (i := 2) rfl; have q3 := hB7s.cell (i := 3) rfl; have h0 := hB7s.free 0; have h1 := hB7s.free 1; have h2 := hB7s.free 2; have h3 := hB7s.free 3; go_simp)
                    refine hK.out _ _ (fun he => nof he) (fun hE => ?_)
                    clear hK K hE
                    try simp only [Act.put, List.setIfInBounds_toArray, List.set_cons_zero, List.set_cons_succ]
                    refine wpAnyT_done (by kernel_rfl) ?_ _
                    refine NoPanic.normal ?_
                    go_wp2_with fail
                    go_meet
                    exact ⟨_, _, Ax, cx, Ay, cy, rfl, rfl, hs.fin rfl⟩
                  exact AllT.nil
                exact AllT.nil
              exact AllT.nil
            exact AllT.nil
          refine AllT.cons (o := { dst := some 12, op := Op.alloc 24, type := 0, pos := "types.go:322", after := #[], guard := none }) rfl (fun K hK => ?_) ?_
          · (go_simp; refine name_world ?_; intro wz7 hw; (first | replace hs := hs.box7 hw | replace hs := hs.drew.box7 hw | replace hs := hs.box7d hw | replace hs := hs.drew.box7d hw); (try rw [drew_size] at hs); clear hw)
            refine hK.out _ _ (fun _ => ?_) (fun hE => ?_)
            · exact HQ9.out _ (by first | exact hs.kp | exact hs.drew.kp)
            have hS := hE (by kernel_rfl)
            clear hK K hE
            try simp only [Act.put, List.setIfInBounds_toArray, List.set_cons_zero, List.set_cons_succ]
            refine wpAnyT_ready (rs := [5, 6]) (by kernel_rfl) rfl ?_
            refine AllT.cons (o := { dst := some 63, op := Op.call { callee := Callee.value (Operand.func 9), args := #[Operand.tmp 61, Operand.tmp 62], argTypes := #[25, 24] }, type := 24, pos := "types.go:322", after := #[⟨3, .data⟩, ⟨4, .data⟩, ⟨2, .chain⟩], guard := none }) rfl (fun K hK => ?_) ?_
            · (go_simp; go_at_call 9; with_reducible refine (HA2.out _ (by first | exact hs.kp | exact hs.drew.kp)).mono ?_; rintro e wr ⟨Ay, cy, rfl, hT, hk⟩; (first | replace hs := hs.cally hT hk | replace hs := hs.drew.cally hT hk); clear hT hk; go_wp2_with fail)
              refine hK.out _ _ (fun _ => ?_) (fun hE => ?_)
              · exact HQ9.out _ (by first | exact hs.kp | exact hs.drew.kp)
              have hS := hE (by kernel_rfl)
              clear hK K hE
              try simp only [Act.put, List.setIfInBounds_toArray, List.set_cons_zero, List.set_cons_succ]
              refine wpAnyT_ready (rs := [6]) (by kernel_rfl) rfl ?_
              refine AllT.cons (o := { dst := some 11, op := Op.alloc 24, type := 0, pos := "types.go:322", after := #[], guard := none }) rfl (fun K hK => ?_) ?_
              · (go_simp; refine name_world ?_; intro wz6 hw; (first | replace hs := hs.box6 hw | replace hs := hs.drew.box6 hw | replace hs := hs.box6d hw | replace hs := hs.drew.box6d hw); (try rw [drew_size] at hs); clear hw)
                refine hK.out _ _ (fun _ => ?_) (fun hE => ?_)
                · exact HQ9.out _ (by first | exact hs.kp | exact hs.drew.kp)
                have hS := hE (by kernel_rfl)
                clear hK K hE
                try simp only [Act.put, List.setIfInBounds_toArray, List.set_cons_zero, List.set_cons_succ]
                refine wpAnyT_ready (rs := [8]) (by kernel_rfl) rfl ?_
                refine AllT.cons (o := { dst := none, op := Op.store 24 (Operand.tmp 11) (Operand.tmp 60), type := 0, pos := "types.go:322", after := #[⟨6, .data⟩, ⟨2, .data⟩, ⟨5, .chain⟩, ⟨0, .phase⟩, ⟨1, .phase⟩, ⟨2, .phase⟩, ⟨3, .textOnly .lateStores⟩, ⟨4, .textOnly .lateStores⟩, ⟨5, .textOnly .lateStoresUnsure⟩, ⟨6, .phase⟩, ⟨7, .phase⟩], guard := none }) rfl (fun K hK => ?_) ?_
                · (obtain ⟨hB6, -⟩ := hs.b6 _ rfl; have r0 := hB6.cell (i := 0) rfl; have r1 := hB6.cell (i := 1) rfl; have r2 := hB6.cell (i := 2) rfl; have r3 := hB6.cell (i := 3) rfl; have f0 := hB6.free 0; have f1 := hB6.free 1; have f2 := hB6.free 2; have f3 := hB6.free 3; go_simp)
                  refine hK.out _ _ (fun he => nof he) (fun hE => ?_)
                  clear hK K hE
                  try simp only [Act.put, List.setIfInBounds_toArray, List.set_cons_zero, List.set_cons_succ]
                  refine wpAnyT_ready (rs := [9]) (by kernel_rfl) rfl ?_
                  refine AllT.cons (o := { dst := none, op := Op.store 24 (Operand.tmp 12) (Operand.tmp 63), type := 0, pos := "types.go:322", after := #[⟨7, .data⟩, ⟨5, .data⟩, ⟨8, .chain⟩, ⟨0, .phase⟩, ⟨1, .phase⟩, ⟨2, .phase⟩, ⟨3, .phase⟩, ⟨4, .phase⟩, ⟨5, .phase⟩, ⟨6, .phase⟩, ⟨7, .phase⟩, ⟨8, .phase⟩], guard := none }) rfl (fun K hK => ?_) ?_
                  · (obtain ⟨hB6, -⟩ := hs.b6 _ rfl; obtain ⟨hB7, -⟩ := hs.b7 _ rfl; obtain ⟨-, hK6⟩ := four (show Blk _ _ _ [_, _, _, _] from hB6) (.int .i64 x.kind) (.string x.name) (.int .i64 x.var) (.slice Ax x.args.length cx); have hB7s := hB7.keeps hK6 (fun e => hs.ne _ _ rfl rfl e.symm); have q0 := hB7s.cell (i := 0) rfl; have q1 := hB7s.cell (i := 1) rfl; have q2 := hB7s.cell (i := 2) rfl; have q3 := hB7s.cell (i := 3) rfl; have h0 := hB7s.free 0; have h1 := hB7s.free 1; have h2 := hB7s.free 2; have h3 := hB7s.free 3; go_simp)
                    refine hK.out _ _ (fun he => nof he) (fun hE => ?_)
                    clear hK K hE
                    try simp only [Act.put, List.setIfInBounds_toArray, List.set_cons_zero, List.set_cons_succ]
                    refine wpAnyT_done (by kernel_rfl) ?_ _
                    refine NoPanic.normal ?_
                    go_wp2_with fail
                    go_meet
                    exact ⟨_, _, Ax, cx, Ay, cy, rfl, rfl, hs.fin rfl⟩
                  exact AllT.nil
                exact AllT.nil
              exact AllT.nil
            refine AllT.cons (o := { dst := some 11, op := Op.alloc 24, type := 0, pos := "types.go:322", after := #[], guard := none }) rfl (fun K hK => ?_) ?_
            · (go_simp; refine name_world ?_; intro wz6 hw; (first | replace hs := hs.box6 hw | replace hs := hs.drew.box6 hw | replace hs := hs.box6d hw | replace hs := hs.drew.box6d hw); (try rw [drew_size] at hs); clear hw)
              refine hK.out _ _ (fun _ => ?_) (fun hE => ?_)
              · exact HQ9.out _ (by first | exact hs.kp | exact hs.drew.kp)
              have hS := hE (by kernel_rfl)
              clear hK K hE
              try simp only [Act.put, List.setIfInBounds_toArray, List.set_cons_zero, List.set_cons_succ]
              refine wpAnyT_ready (rs := [5]) (by kernel_rfl) rfl ?_
              refine AllT.cons (o := { dst := some 63, op := Op.call { callee := Callee.value (Operand.func 9), args := #[Operand.tmp 61, Operand.tmp 62], argTypes := #[25, 24] }, type := 24, pos := "types.go:322", after := #[⟨3, .data⟩, ⟨4, .data⟩, ⟨2, .chain⟩], guard := none }) rfl (fun K hK => ?_) ?_
              · (go_simp; go_at_call 9; with_reducible refine (HA2.out _ (by first | exact hs.kp | exact hs.drew.kp)).mono ?_; rintro e wr ⟨Ay, cy, rfl, hT, hk⟩; (first | replace hs := hs.cally hT hk | replace hs := hs.drew.cally hT hk); clear hT hk; go_wp2_with fail)
                refine hK.out _ _ (fun _ => ?_) (fun hE => ?_)
                · exact HQ9.out _ (by first | exact hs.kp | exact hs.drew.kp)
                have hS := hE (by kernel_rfl)
                clear hK K hE
                try simp only [Act.put, List.setIfInBounds_toArray, List.set_cons_zero, List.set_cons_succ]
                refine wpAnyT_ready (rs := [8]) (by kernel_rfl) rfl ?_
                refine AllT.cons (o := { dst := none, op := Op.store 24 (Operand.tmp 11) (Operand.tmp 60), type := 0, pos := "types.go:322", after := #[⟨6, .data⟩, ⟨2, .data⟩, ⟨5, .chain⟩, ⟨0, .phase⟩, ⟨1, .phase⟩, ⟨2, .phase⟩, ⟨3, .textOnly .lateStores⟩, ⟨4, .textOnly .lateStores⟩, ⟨5, .textOnly .lateStoresUnsure⟩, ⟨6, .phase⟩, ⟨7, .phase⟩], guard := none }) rfl (fun K hK => ?_) ?_
                · (obtain ⟨hB6, -⟩ := hs.b6 _ rfl; have r0 := hB6.cell (i := 0) rfl; have r1 := hB6.cell (i := 1) rfl; have r2 := hB6.cell (i := 2) rfl; have r3 := hB6.cell (i := 3) rfl; have f0 := hB6.free 0; have f1 := hB6.free 1; have f2 := hB6.free 2; have f3 := hB6.free 3; go_simp)
                  refine hK.out _ _ (fun he => nof he) (fun hE => ?_)
                  clear hK K hE
                  try simp only [Act.put, List.setIfInBounds_toArray, List.set_cons_zero, List.set_cons_succ]
                  refine wpAnyT_ready (rs := [9]) (by kernel_rfl) rfl ?_
                  refine AllT.cons (o := { dst := none, op := Op.store 24 (Operand.tmp 12) (Operand.tmp 63), type := 0, pos := "types.go:322", after := #[⟨7, .data⟩, ⟨5, .data⟩, ⟨8, .chain⟩, ⟨0, .phase⟩, ⟨1, .phase⟩, ⟨2, .phase⟩, ⟨3, .phase⟩, ⟨4, .phase⟩, ⟨5, .phase⟩, ⟨6, .phase⟩, ⟨7, .phase⟩, ⟨8, .phase⟩], guard := none }) rfl (fun K hK => ?_) ?_
                  · (obtain ⟨hB6, -⟩ := hs.b6 _ rfl; obtain ⟨hB7, -⟩ := hs.b7 _ rfl; obtain ⟨-, hK6⟩ := four (show Blk _ _ _ [_, _, _, _] from hB6) (.int .i64 x.kind) (.string x.name) (.int .i64 x.var) (.slice Ax x.args.length cx); have hB7s := hB7.keeps hK6 (fun e => hs.ne _ _ rfl rfl e.symm); have q0 := hB7s.cell (i := 0) rfl; have q1 := hB7s.cell (i := 1) rfl; have q2 := hB7s.cell (i := 2) rfl; have q3 := hB7s.cell (i := 3) rfl; have h0 := hB7s.free 0; have h1 := hB7s.free 1; have h2 := hB7s.free 2; have h3 := hB7s.free 3; go_simp)
                    refine hK.out _ _ (fun he => nof he) (fun hE => ?_)
                    clear hK K hE
                    try simp only [Act.put, List.setIfInBounds_toArray, List.set_cons_zero, List.set_cons_succ]
                    refine wpAnyT_done (by kernel_rfl) ?_ _
                    refine NoPanic.normal ?_
                    go_wp2_with fail
                    go_meet
                    exact ⟨_, _, Ax, cx, Ay, cy, rfl, rfl, hs.fin rfl⟩
                  exact AllT.nil
                exact AllT.nil
              exact AllT.nil
            exact AllT.nil
          exact AllT.nil
        refine AllT.cons (o := { dst := some 11, op := Op.alloc 24, type := 0, pos := "types.go:322", after := #[], guard := none }) rfl (fun K hK => ?_) ?_
        · (go_simp; refine name_world ?_; intro wz6 hw; (first | replace hs := hs.box6 hw | replace hs := hs.drew.box6 hw | replace hs := hs.box6d hw | replace hs := hs.drew.box6d hw); (try rw [drew_size] at hs); clear hw)
          refine hK.out _ _ (fun _ => ?_) (fun hE => ?_)
          · exact HQ9.out _ (by first | exact hs.kp | exact hs.drew.kp)
          have hS := hE (by kernel_rfl)
          clear hK K hE
          try simp only [Act.put, List.setIfInBounds_toArray, List.set_cons_zero, List.set_cons_succ]
          refine wpAnyT_ready (rs := [4, 7]) (by kernel_rfl) rfl ?_
          refine AllT.cons (o := { dst := some 62, op := Op.load 24 (Operand.tmp 3), type := 24, pos := "types.go:322", after := #[], guard := none }) rfl (fun K hK => ?_) ?_
          · go_simp
            refine hK.out _ _ (fun _ => ?_) (fun hE => ?_)
            · exact HQ9.out _ (by first | exact hs.kp | exact hs.drew.kp)
            have hS := hE (by kernel_rfl)
            clear hK K hE
            try simp only [Act.put, List.setIfInBounds_toArray, List.set_cons_zero, List.set_cons_succ]
            refine wpAnyT_ready (rs := [5, 7]) (by kernel_rfl) rfl ?_
            refine AllT.cons (o := { dst := some 63, op := Op.call { callee := Callee.value (Operand.func 9), args := #[Operand.tmp 61, Operand.tmp 62], argTypes := #[25, 24] }, type := 24, pos := "types.go:322", after := #[⟨3, .data⟩, ⟨4, .data⟩, ⟨2, .chain⟩], guard := none }) rfl (fun K hK => ?_) ?_
            · (go_simp; go_at_call 9; with_reducible refine (HA2.out _ (by first | exact hs.kp | exact hs.drew.kp)).mono ?_; rintro e wr ⟨Ay, cy, rfl, hT, hk⟩; (first | replace hs := hs.cally hT hk | replace hs := hs.drew.cally hT hk); clear hT hk; go_wp2_with fail)
              refine hK.out _ _ (fun _ => ?_) (fun hE => ?_)
              · exact HQ9.out _ (by first | exact hs.kp | exact hs.drew.kp)
              have hS := hE (by kernel_rfl)
              clear hK K hE
              try simp only [Act.put, List.setIfInBounds_toArray, List.set_cons_zero, List.set_cons_succ]
              refine wpAnyT_ready (rs := [7]) (by kernel_rfl) rfl ?_
              refine AllT.cons (o := { dst := some 12, op := Op.alloc 24, type := 0, pos := "types.go:322", after := #[], guard := none }) rfl (fun K hK => ?_) ?_
              · (go_simp; refine name_world ?_; intro wz7 hw; (first | replace hs := hs.box7 hw | replace hs := hs.drew.box7 hw | replace hs := hs.box7d hw | replace hs := hs.drew.box7d hw); (try rw [drew_size] at hs); clear hw)
                refine hK.out _ _ (fun _ => ?_) (fun hE => ?_)
                · exact HQ9.out _ (by first | exact hs.kp | exact hs.drew.kp)
                have hS := hE (by kernel_rfl)
                clear hK K hE
                try simp only [Act.put, List.setIfInBounds_toArray, List.set_cons_zero, List.set_cons_succ]
                refine wpAnyT_ready (rs := [8]) (by kernel_rfl) rfl ?_
                refine AllT.cons (o := { dst := none, op := Op.store 24 (Operand.tmp 11) (Operand.tmp 60), type := 0, pos := "types.go:322", after := #[⟨6, .data⟩, ⟨2, .data⟩, ⟨5, .chain⟩, ⟨0, .phase⟩, ⟨1, .phase⟩, ⟨2, .phase⟩, ⟨3, .textOnly .lateStores⟩, ⟨4, .textOnly .lateStores⟩, ⟨5, .textOnly .lateStoresUnsure⟩, ⟨6, .phase⟩, ⟨7, .phase⟩], guard := none }) rfl (fun K hK => ?_) ?_
                · (obtain ⟨hB6, -⟩ := hs.b6 _ rfl; have r0 := hB6.cell (i := 0) rfl; have r1 := hB6.cell (i := 1) rfl; have r2 := hB6.cell (i := 2) rfl; have r3 := hB6.cell (i := 3) rfl; have f0 := hB6.free 0; have f1 := hB6.free 1; have f2 := hB6.free 2; have f3 := hB6.free 3; go_simp)
                  refine hK.out _ _ (fun he => nof he) (fun hE => ?_)
                  clear hK K hE
                  try simp only [Act.put, List.setIfInBounds_toArray, List.set_cons_zero, List.set_cons_succ]
                  refine wpAnyT_ready (rs := [9]) (by kernel_rfl) rfl ?_
                  refine AllT.cons (o := { dst := none, op := Op.store 24 (Operand.tmp 12) (Operand.tmp 63), type := 0, pos := "types.go:322", after := #[⟨7, .data⟩, ⟨5, .data⟩, ⟨8, .chain⟩, ⟨0, .phase⟩, ⟨1, .phase⟩, ⟨2, .phase⟩, ⟨3, .phase⟩, ⟨4, .phase⟩, ⟨5, .phase⟩, ⟨6, .phase⟩, ⟨7, .phase⟩, ⟨8, .phase⟩], guard := none }) rfl (fun K hK => ?_) ?_
                  · (obtain ⟨hB6, -⟩ := hs.b6 _ rfl; obtain ⟨hB7, -⟩ := hs.b7 _ rfl; obtain ⟨-, hK6⟩ := four (show Blk _ _ _ [_, _, _, _] from hB6) (.int .i64 x.kind) (.string x.name) (.int .i64 x.var) (.slice Ax x.args.length cx); have hB7s := hB7.keeps hK6 (fun e => hs.ne _ _ rfl rfl e.symm); have q0 := hB7s.cell (i := 0) rfl; have q1 := hB7s.cell (i := 1) rfl; have q2 := hB7s.cell (i := 2) rfl; have q3 := hB7s.cell (i := 3) rfl; have h0 := hB7s.free 0; have h1 := hB7s.free 1; have h2 := hB7s.free 2; have h3 := hB7s.free 3; go_simp)
                    refine hK.out _ _ (fun he => nof he) (fun hE => ?_)
                    clear hK K hE
                    try simp only [Act.put, List.setIfInBounds_toArray, List.set_cons_zero, List.set_cons_succ]
                    refine wpAnyT_done (by kernel_rfl) ?_ _
                    refine NoPanic.normal ?_
                    go_wp2_with fail
                    go_meet
                    exact ⟨_, _, Ax, cx, Ay, cy, rfl, rfl, hs.fin rfl⟩
                  exact AllT.nil
                exact AllT.nil
              exact AllT.nil
            refine AllT.cons (o := { dst := some 12, op := Op.alloc 24, type := 0, pos := "types.go:322", after := #[], guard := none }) rfl (fun K hK => ?_) ?_
            · (go_simp; refine name_world ?_; intro wz7 hw; (first | replace hs := hs.box7 hw | replace hs := hs.drew.box7 hw | replace hs := hs.box7d hw | replace hs := hs.drew.box7d hw); (try rw [drew_size] at hs); clear hw)
              refine hK.out _ _ (fun _ => ?_) (fun hE => ?_)
              · exact HQ9.out _ (by first | exact hs.kp | exact hs.drew.kp)
              have hS := hE (by kernel_rfl)
              clear hK K hE
              try simp only [Act.put, List.setIfInBounds_toArray, List.set_cons_zero, List.set_cons_succ]
              refine wpAnyT_ready (rs := [5]) (by kernel_rfl) rfl ?_
              refine AllT.cons (o := { dst := some 63, op := Op.call { callee := Callee.value (Operand.func 9), args := #[Operand.tmp 61, Operand.tmp 62], argTypes := #[25, 24] }, type := 24, pos := "types.go:322", after := #[⟨3, .data⟩, ⟨4, .data⟩, ⟨2, .chain⟩], guard := none }) rfl (fun K hK => ?_) ?_
              · (go_simp; go_at_call 9; with_reducible refine (HA2.out _ (by first | exact hs.kp | exact hs.drew.kp)).mono ?_; rintro e wr ⟨Ay, cy, rfl, hT, hk⟩; (first | replace hs := hs.cally hT hk | replace hs := hs.drew.cally hT hk); clear hT hk; go_wp2_with fail)
                refine hK.out _ _ (fun _ => ?_) (fun hE => ?_)
                · exact HQ9.out _ (by first | exact hs.kp | exact hs.drew.kp)
                have hS := hE (by kernel_rfl)
                clear hK K hE
                try simp only [Act.put, List.setIfInBounds_toArray, List.set_cons_zero, List.set_cons_succ]
                refine wpAnyT_ready (rs := [8]) (by kernel_rfl) rfl ?_
                refine AllT.cons (o := { dst := none, op := Op.store 24 (Operand.tmp 11) (Operand.tmp 60), type := 0, pos := "types.go:322", after := #[⟨6, .data⟩, ⟨2, .data⟩, ⟨5, .chain⟩, ⟨0, .phase⟩, ⟨1, .phase⟩, ⟨2, .phase⟩, ⟨3, .textOnly .lateStores⟩, ⟨4, .textOnly .lateStores⟩, ⟨5, .textOnly .lateStoresUnsure⟩, ⟨6, .phase⟩, ⟨7, .phase⟩], guard := none }) rfl (fun K hK => ?_) ?_
                · (obtain ⟨hB6, -⟩ := hs.b6 _ rfl; have r0 := hB6.cell (i := 0) rfl; have r1 := hB6.cell (i := 1) rfl; have r2 := hB6.cell (i := 2) rfl; have r3 := hB6.cell (i := 3) rfl; have f0 := hB6.free 0; have f1 := hB6.free 1; have f2 := hB6.free 2; have f3 := hB6.free 3; go_simp)
                  refine hK.out _ _ (fun he => nof he) (fun hE => ?_)
                  clear hK K hE
                  try simp only [Act.put, List.setIfInBounds_toArray, List.set_cons_zero, List.set_cons_succ]
                  refine wpAnyT_ready (rs := [9]) (by kernel_rfl) rfl ?_
                  refine AllT.cons (o := { dst := none, op := Op.store 24 (Operand.tmp 12) (Operand.tmp 63), type := 0, pos := "types.go:322", after := #[⟨7, .data⟩, ⟨5, .data⟩, ⟨8, .chain⟩, ⟨0, .phase⟩, ⟨1, .phase⟩, ⟨2, .phase⟩, ⟨3, .phase⟩, ⟨4, .phase⟩, ⟨5, .phase⟩, ⟨6, .phase⟩, ⟨7, .phase⟩, ⟨8, .phase⟩], guard := none }) rfl (fun K hK => ?_) ?_
                  · (obtain ⟨hB6, -⟩ := hs.b6 _ rfl; obtain ⟨hB7, -⟩ := hs.b7 _ rfl; obtain ⟨-, hK6⟩ := four (show Blk _ _ _ [_, _, _, _] from hB6) (.int .i64 x.kind) (.string x.name) (.int .i64 x.var) (.slice Ax x.args.length cx); have hB7s := hB7.keeps hK6 (fun e => hs.ne _ _ rfl rfl e.symm); have q0 := hB7s.cell (i := 0) rfl; have q1 := hB7s.cell (i := 1) rfl; have q2 := hB7s.cell (i := 2) rfl; have q3 := hB7s.cell (i := 3) rfl; have h0 := hB7s.free 0; have h1 := hB7s.free 1; have h2 := hB7s.free 2; have h3 := hB7s.free 3; go_simp)
                    refine hK.out _ _ (fun he => nof he) (fun hE => ?_)
                    clear hK K hE
                    try simp only [Act.put, List.setIfInBounds_toArray, List.set_cons_zero, List.set_cons_succ]
                    refine wpAnyT_done (by kernel_rfl) ?_ _
                    refine NoPanic.normal ?_
                    go_wp2_with fail
                    go_meet
                    exact ⟨_, _, Ax, cx, Ay, cy, rfl, rfl, hs.fin rfl⟩
                  exact AllT.nil
                exact AllT.nil
              exact AllT.nil
            exact AllT.nil
          refine AllT.cons (o := { dst := some 12, op := Op.alloc 24, type := 0, pos := "types.go:322", after := #[], guard := none }) rfl (fun K hK => ?_) ?_
          · (go_simp; refine name_world ?_; intro wz7 hw; (first | replace hs := hs.box7 hw | replace hs := hs.drew.box7 hw | replace hs := hs.box7d hw | replace hs := hs.drew.box7d hw); (try rw [drew_size] at hs); clear hw)
            refine hK.out _ _ (fun _ => ?_) (fun hE => ?_)
            · exact HQ9.out _ (by first | exact hs.kp | exact hs.drew.kp)
            have hS := hE (by kernel_rfl)
            clear hK K hE
            try simp only [Act.put, List.setIfInBounds_toArray, List.set_cons_zero, List.set_cons_succ]
            refine wpAnyT_ready (rs := [4]) (by kernel_rfl) rfl ?_
            refine AllT.cons (o := { dst := some 62, op := Op.load 24 (Operand.tmp 3), type := 24, pos := "types.go:322", after := #[], guard := none }) rfl (fun K hK => ?_) ?_
            · go_simp
              refine hK.out _ _ (fun _ => ?_) (fun hE => ?_)
              · exact HQ9.out _ (by first | exact hs.kp | exact hs.drew.kp)
              have hS := hE (by kernel_rfl)
              clear hK K hE
              try simp only [Act.put, List.setIfInBounds_toArray, List.set_cons_zero, List.set_cons_succ]
              refine wpAnyT_ready (rs := [5]) (by kernel_rfl) rfl ?_
              refine AllT.cons (o := { dst := some 63, op := Op.call { callee := Callee.value (Operand.func 9), args := #[Operand.tmp 61, Operand.tmp 62], argTypes := #[25, 24] }, type := 24, pos := "types.go:322", after := #[⟨3, .data⟩, ⟨4, .data⟩, ⟨2, .chain⟩], guard := none }) rfl (fun K hK => ?_) ?_
              · (go_simp; go_at_call 9; with_reducible refine (HA2.out _ (by first | exact hs.kp | exact hs.drew.kp)).mono ?_; rintro e wr ⟨Ay, cy, rfl, hT, hk⟩; (first | replace hs := hs.cally hT hk | replace hs := hs.drew.cally hT hk); clear hT hk; go_wp2_with fail)
                refine hK.out _ _ (fun _ => ?_) (fun hE => ?_)
                · exact HQ9.out _ (by first | exact hs.kp | exact hs.drew.kp)
                have hS := hE (by kernel_rfl)
                clear hK K hE
                try simp only [Act.put, List.setIfInBounds_toArray, List.set_cons_zero, List.set_cons_succ]
                refine wpAnyT_ready (rs := [8]) (by kernel_rfl) rfl ?_
                refine AllT.cons (o := { dst := none, op := Op.store 24 (Operand.tmp 11) (Operand.tmp 60), type := 0, pos := "types.go:322", after := #[⟨6, .data⟩, ⟨2, .data⟩, ⟨5, .chain⟩, ⟨0, .phase⟩, ⟨1, .phase⟩, ⟨2, .phase⟩, ⟨3, .textOnly .lateStores⟩, ⟨4, .textOnly .lateStores⟩, ⟨5, .textOnly .lateStoresUnsure⟩, ⟨6, .phase⟩, ⟨7, .phase⟩], guard := none }) rfl (fun K hK => ?_) ?_
                · (obtain ⟨hB6, -⟩ := hs.b6 _ rfl; have r0 := hB6.cell (i := 0) rfl; have r1 := hB6.cell (i := 1) rfl; have r2 := hB6.cell (i := 2) rfl; have r3 := hB6.cell (i := 3) rfl; have f0 := hB6.free 0; have f1 := hB6.free 1; have f2 := hB6.free 2; have f3 := hB6.free 3; go_simp)
                  refine hK.out _ _ (fun he => nof he) (fun hE => ?_)
                  clear hK K hE
                  try simp only [Act.put, List.setIfInBounds_toArray, List.set_cons_zero, List.set_cons_succ]
                  refine wpAnyT_ready (rs := [9]) (by kernel_rfl) rfl ?_
                  refine AllT.cons (o := { dst := none, op := Op.store 24 (Operand.tmp 12) (Operand.tmp 63), type := 0, pos := "types.go:322", after := #[⟨7, .data⟩, ⟨5, .data⟩, ⟨8, .chain⟩, ⟨0, .phase⟩, ⟨1, .phase⟩, ⟨2, .phase⟩, ⟨3, .phase⟩, ⟨4, .phase⟩, ⟨5, .phase⟩, ⟨6, .phase⟩, ⟨7, .phase⟩, ⟨8, .phase⟩], guard := none }) rfl (fun K hK => ?_) ?_
                  · (obtain ⟨hB6, -⟩ := hs.b6 _ rfl; obtain ⟨hB7, -⟩ := hs.b7 _ rfl; obtain ⟨-, hK6⟩ := four (show Blk _ _ _ [_, _, _, _] from hB6) (.int .i64 x.kind) (.string x.name) (.int .i64 x.var) (.slice Ax x.args.length cx); have hB7s := hB7.keeps hK6 (fun e => hs.ne _ _ rfl rfl e.symm); have q0 := hB7s.cell (i := 0) rfl; have q1 := hB7s.cell (i := 1) rfl; have q2 := hB7s.cell (i := 2) rfl; have q3 := hB7s.cell (i := 3) rfl; have h0 := hB7s.free 0; have h1 := hB7s.free 1; have h2 := hB7s.free 2; have h3 := hB7s.free 3; go_simp)
                    refine hK.out _ _ (fun he => nof he) (fun hE => ?_)
                    clear hK K hE
                    try simp only [Act.put, List.setIfInBounds_toArray, List.set_cons_zero, List.set_cons_succ]
                    refine wpAnyT_done (by kernel_rfl) ?_ _
                    refine NoPanic.normal ?_
                    go_wp2_with fail
                    go_meet
                    exact ⟨_, _, Ax, cx, Ay, cy, rfl, rfl, hs.fin rfl⟩
                  exact AllT.nil
                exact AllT.nil
              exact AllT.nil
            exact AllT.nil
          exact AllT.nil
        refine AllT.cons (o := { dst := some 12, op := Op.alloc 24, type := 0, pos := "types.go:322", after := #[], guard := none }) rfl (fun K hK => ?_) ?_
        · (go_simp; refine name_world ?_; intro wz7 hw; (first | replace hs := hs.box7 hw | replace hs := hs.drew.box7 hw | replace hs := hs.box7d hw | replace hs := hs.drew.box7d hw); (try rw [drew_size] at hs); clear hw)
          refine hK.out _ _ (fun _ => ?_) (fun hE => ?_)
          · exact HQ9.out _ (by first | exact hs.kp | exact hs.drew.kp)
          have hS := hE (by kernel_rfl)
          clear hK K hE
          try simp only [Act.put, List.setIfInBounds_toArray, List.set_cons_zero, List.set_cons_succ]
          refine wpAnyT_ready (rs := [4, 6]) (by kernel_rfl) rfl ?_
          refine AllT.cons (o := { dst := some 62, op := Op.load 24 (Operand.tmp 3), type := 24, pos := "types.go:322", after := #[], guard := none }) rfl (fun K hK => ?_) ?_
          · go_simp
            refine hK.out _ _ (fun _ => ?_) (fun hE => ?_)
            · exact HQ9.out _ (by first | exact hs.kp | exact hs.drew.kp)
            have hS := hE (by kernel_rfl)
            clear hK K hE
            try simp only [Act.put, List.setIfInBounds_toArray, List.set_cons_zero, List.set_cons_succ]
            refine wpAnyT_ready (rs := [5, 6]) (by kernel_rfl) rfl ?_
            refine AllT.cons (o := { dst := some 63, op := Op.call { callee := Callee.value (Operand.func 9), args := #[Operand.tmp 61, Operand.tmp 62], argTypes := #[25, 24] }, type := 24, pos := "types.go:322", after := #[⟨3, .data⟩, ⟨4, .data⟩, ⟨2, .chain⟩], guard := none }) rfl (fun K hK => ?_) ?_
            · (go_simp; go_at_call 9; with_reducible refine (HA2.out _ (by first | exact hs.kp | exact hs.drew.kp)).mono ?_; rintro e wr ⟨Ay, cy, rfl, hT, hk⟩; (first | replace hs := hs.cally hT hk | replace hs := hs.drew.cally hT hk); clear hT hk; go_wp2_with fail)
              refine hK.out _ _ (fun _ => ?_) (fun hE => ?_)
              · exact HQ9.out _ (by first | exact hs.kp | exact hs.drew.kp)
              have hS := hE (by kernel_rfl)
              clear hK K hE
              try simp only [Act.put, List.setIfInBounds_toArray, List.set_cons_zero, List.set_cons_succ]
              refine wpAnyT_ready (rs := [6]) (by kernel_rfl) rfl ?_
              refine AllT.cons (o := { dst := some 11, op := Op.alloc 24, type := 0, pos := "types.go:322", after := #[], guard := none }) rfl (fun K hK => ?_) ?_
              · (go_simp; refine name_world ?_; intro wz6 hw; (first | replace hs := hs.box6 hw | replace hs := hs.drew.box6 hw | replace hs := hs.box6d hw | replace hs := hs.drew.box6d hw); (try rw [drew_size] at hs); clear hw)
                refine hK.out _ _ (fun _ => ?_) (fun hE => ?_)
                · exact HQ9.out _ (by first | exact hs.kp | exact hs.drew.kp)
                have hS := hE (by kernel_rfl)
                clear hK K hE
                try simp only [Act.put, List.setIfInBounds_toArray, List.set_cons_zero, List.set_cons_succ]
                refine wpAnyT_ready (rs := [8]) (by kernel_rfl) rfl ?_
                refine AllT.cons (o := { dst := none, op := Op.store 24 (Operand.tmp 11) (Operand.tmp 60), type := 0, pos := "types.go:322", after := #[⟨6, .data⟩, ⟨2, .data⟩, ⟨5, .chain⟩, ⟨0, .phase⟩, ⟨1, .phase⟩, ⟨2, .phase⟩, ⟨3, .textOnly .lateStores⟩, ⟨4, .textOnly .lateStores⟩, ⟨5, .textOnly .lateStoresUnsure⟩, ⟨6, .phase⟩, ⟨7, .phase⟩], guard := none }) rfl (fun K hK => ?_) ?_
                · (obtain ⟨hB6, -⟩ := hs.b6 _ rfl; have r0 := hB6.cell (i := 0) rfl; have r1 := hB6.cell (i := 1) rfl; have r2 := hB6.cell (i := 2) rfl; have r3 := hB6.cell (i := 3) rfl; have f0 := hB6.free 0; have f1 := hB6.free 1; have f2 := hB6.free 2; have f3 := hB6.free 3; go_simp)
                  refine hK.out _ _ (fun he => nof he) (fun hE => ?_)
                  clear hK K hE
                  try simp only [Act.put, List.setIfInBounds_toArray, List.set_cons_zero, List.set_cons_succ]
                  refine wpAnyT_ready (rs := [9]) (by kernel_rfl) rfl ?_
                  refine AllT.cons (o := { dst := none, op := Op.store 24 (Operand.tmp 12) (Operand.tmp 63), type := 0, pos := "types.go:322", after := #[⟨7, .data⟩, ⟨5, .data⟩, ⟨8, .chain⟩, ⟨0, .phase⟩, ⟨1, .phase⟩, ⟨2, .phase⟩, ⟨3, .phase⟩, ⟨4, .phase⟩, ⟨5, .phase⟩, ⟨6, .phase⟩, ⟨7, .phase⟩, ⟨8, .phase⟩], guard := none }) rfl (fun K hK => ?_) ?_
                  · (obtain ⟨hB6, -⟩ := hs.b6 _ rfl; obtain ⟨hB7, -⟩ := hs.b7 _ rfl; obtain ⟨-, hK6⟩ := four (show Blk _ _ _ [_, _, _, _] from hB6) (.int .i64 x.kind) (.string x.name) (.int .i64 x.var) (.slice Ax x.args.length cx); have hB7s := hB7.keeps hK6 (fun e => hs.ne _ _ rfl rfl e.symm); have q0 := hB7s.cell (i := 0) rfl; have q1 := hB7s.cell (i := 1) rfl; have q2 := hB7s.cell (i := 2) rfl; have q3 := hB7s.cell (i := 3) rfl; have h0 := hB7s.free 0; have h1 := hB7s.free 1; have h2 := hB7s.free 2; have h3 := hB7s.free 3; go_simp)
                    refine hK.out _ _ (fun he => nof he) (fun hE => ?_)
                    clear hK K hE
                    try simp only [Act.put, List.setIfInBounds_toArray, List.set_cons_zero, List.set_cons_succ]
                    refine wpAnyT_done (by kernel_rfl) ?_ _
                    refine NoPanic.normal ?_
                    go_wp2_with fail
                    go_meet
                    exact ⟨_, _, Ax, cx, Ay, cy, rfl, rfl, hs.fin rfl⟩
                  exact AllT.nil
                exact AllT.nil
              exact AllT.nil
            refine AllT.cons (o := { dst := some 11, op := Op.alloc 24, type := 0, pos := "types.go:322", after := #[], guard := none }) rfl (fun K hK => ?_) ?_
            · (go_simp; refine name_world ?_; intro wz6 hw; (first | replace hs := hs.box6 hw | replace hs := hs.drew.box6 hw | replace hs := hs.box6d hw | replace hs := hs.drew.box6d hw); (try rw [drew_size] at hs); clear hw)
              refine hK.out _ _ (fun _ => ?_) (fun hE => ?_)
              · exact HQ9.out _ (by first | exact hs.kp | exact hs.drew.kp)
              have hS := hE (by kernel_rfl)
              clear hK K hE
              try simp only [Act.put, List.setIfInBounds_toArray, List.set_cons_zero, List.set_cons_succ]
              refine wpAnyT_ready (rs := [5]) (by kernel_rfl) rfl ?_
              refine AllT.cons (o := { dst := some 63, op := Op.call { callee := Callee.value (Operand.func 9), args := #[Operand.tmp 61, Operand.tmp 62], argTypes := #[25, 24] }, type := 24, pos := "types.go:322", after := #[⟨3, .data⟩, ⟨4, .data⟩, ⟨2, .chain⟩], guard := none }) rfl (fun K hK => ?_) ?_
              · (go_simp; go_at_call 9; with_reducible refine (HA2.out _ (by first | exact hs.kp | exact hs.drew.kp)).mono ?_; rintro e wr ⟨Ay, cy, rfl, hT, hk⟩; (first | replace hs := hs.cally hT hk | replace hs := hs.drew.cally hT hk); clear hT hk; go_wp2_with fail)
                refine hK.out _ _ (fun _ => ?_) (fun hE => ?_)
                · exact HQ9.out _ (by first | exact hs.kp | exact hs.drew.kp)
                have hS := hE (by kernel_rfl)
                clear hK K hE
                try simp only [Act.put, List.setIfInBounds_toArray, List.set_cons_zero, List.set_cons_succ]
                refine wpAnyT_ready (rs := [8]) (by kernel_rfl) rfl ?_
                refine AllT.cons (o := { dst := none, op := Op.store 24 (Operand.tmp 11) (Operand.tmp 60), type := 0, pos := "types.go:322", after := #[⟨6, .data⟩, ⟨2, .data⟩, ⟨5, .chain⟩, ⟨0, .phase⟩, ⟨1, .phase⟩, ⟨2, .phase⟩, ⟨3, .textOnly .lateStores⟩, ⟨4, .textOnly .lateStores⟩, ⟨5, .textOnly .lateStoresUnsure⟩, ⟨6, .phase⟩, ⟨7, .phase⟩], guard := none }) rfl (fun K hK => ?_) ?_
                · (obtain ⟨hB6, -⟩ := hs.b6 _ rfl; have r0 := hB6.cell (i := 0) rfl; have r1 := hB6.cell (i := 1) rfl; have r2 := hB6.cell (i := 2) rfl; have r3 := hB6.cell (i := 3) rfl; have f0 := hB6.free 0; have f1 := hB6.free 1; have f2 := hB6.free 2; have f3 := hB6.free 3; go_simp)
                  refine hK.out _ _ (fun he => nof he) (fun hE => ?_)
                  clear hK K hE
                  try simp only [Act.put, List.setIfInBounds_toArray, List.set_cons_zero, List.set_cons_succ]
                  refine wpAnyT_ready (rs := [9]) (by kernel_rfl) rfl ?_
                  refine AllT.cons (o := { dst := none, op := Op.store 24 (Operand.tmp 12) (Operand.tmp 63), type := 0, pos := "types.go:322", after := #[⟨7, .data⟩, ⟨5, .data⟩, ⟨8, .chain⟩, ⟨0, .phase⟩, ⟨1, .phase⟩, ⟨2, .phase⟩, ⟨3, .phase⟩, ⟨4, .phase⟩, ⟨5, .phase⟩, ⟨6, .phase⟩, ⟨7, .phase⟩, ⟨8, .phase⟩], guard := none }) rfl (fun K hK => ?_) ?_
                  · (obtain ⟨hB6, -⟩ := hs.b6 _ rfl; obtain ⟨hB7, -⟩ := hs.b7 _ rfl; obtain ⟨-, hK6⟩ := four (show Blk _ _ _ [_, _, _, _] from hB6) (.int .i64 x.kind) (.string x.name) (.int .i64 x.var) (.slice Ax x.args.length cx); have hB7s := hB7.keeps hK6 (fun e => hs.ne _ _ rfl rfl e.symm); have q0 := hB7s.cell (i := 0) rfl; have q1 := hB7s.cell (i := 1) rfl; have q2 := hB7s.cell (i := 2) rfl; have q3 := hB7s.cell (i := 3) rfl; have h0 := hB7s.free 0; have h1 := hB7s.free 1; have h2 := hB7s.free 2; have h3 := hB7s.free 3; go_simp)
                    refine hK.out _ _ (fun he => nof he) (fun hE => ?_)
                    clear hK K hE
                    try simp only [Act.put, List.setIfInBounds_toArray, List.set_cons_zero, List.set_cons_succ]
                    refine wpAnyT_done (by kernel_rfl) ?_ _
                    refine NoPanic.normal ?_
                    go_wp2_with fail
                    go_meet
                    exact ⟨_, _, Ax, cx, Ay, cy, rfl, rfl, hs.fin rfl⟩
                  exact AllT.nil
                exact AllT.nil
              exact AllT.nil
            exact AllT.nil
          refine AllT.cons (o := { dst := some 11, op := Op.alloc 24, type := 0, pos := "types.go:322", after := #[], guard := none }) rfl (fun K hK => ?_) ?_
          · (go_simp; refine name_world ?_; intro wz6 hw; (first | replace hs := hs.box6 hw | replace hs := hs.drew.box6 hw | replace hs := hs.box6d hw | replace hs := hs.drew.box6d hw); (try rw [drew_size] at hs); clear hw)
            refine hK.out _ _ (fun _ => ?_) (fun hE => ?_)
            · exact HQ9.out _ (by first | exact hs.kp | exact hs.drew.kp)
            have hS := hE (by kernel_rfl)
            clear hK K hE
            try simp only [Act.put, List.setIfInBounds_toArray, List.set_cons_zero, List.set_cons_succ]
            refine wpAnyT_ready (rs := [4]) (by kernel_rfl) rfl ?_
            refine AllT.cons (o := { dst := some 62, op := Op.load 24 (Operand.tmp 3), type := 24, pos := "types.go:322", after := #[], guard := none }) rfl (fun K hK => ?_) ?_
            · go_simp
              refine hK.out _ _ (fun _ => ?_) (fun hE => ?_)
              · exact HQ9.out _ (by first | exact hs.kp | exact hs.drew.kp)
              have hS := hE (by kernel_rfl)
              clear hK K hE
              try simp only [Act.put, List.setIfInBounds_toArray, List.set_cons_zero, List.set_cons_succ]
              refine wpAnyT_ready (rs := [5]) (by kernel_rfl) rfl ?_
              refine AllT.cons (o := { dst := some 63, op := Op.call { callee := Callee.value (Operand.func 9), args := #[Operand.tmp 61, Operand.tmp 62], argTypes := #[25, 24] }, type := 24, pos := "types.go:322", after := #[⟨3, .data⟩, ⟨4, .data⟩, ⟨2, .chain⟩], guard := none }) rfl (fun K hK => ?_) ?_
              · (go_simp; go_at_call 9; with_reducible refine (HA2.out _ (by first | exact hs.kp | exact hs.drew.kp)).mono ?_; rintro e wr ⟨Ay, cy, rfl, hT, hk⟩; (first | replace hs := hs.cally hT hk | replace hs := hs.drew.cally hT hk); clear hT hk; go_wp2_with fail)
                refine hK.out _ _ (fun _ => ?_) (fun hE => ?_)
                · exact HQ9.out _ (by first | exact hs.kp | exact hs.drew.kp)
                have hS := hE (by kernel_rfl)
                clear hK K hE
                try simp only [Act.put, List.setIfInBounds_toArray, List.set_cons_zero, List.set_cons_succ]
                refine wpAnyT_ready (rs := [8]) (by kernel_rfl) rfl ?_
                refine AllT.cons (o := { dst := none, op := Op.store 24 (Operand.tmp 11) (Operand.tmp 60), type := 0, pos := "types.go:322", after := #[⟨6, .data⟩, ⟨2, .data⟩, ⟨5, .chain⟩, ⟨0, .phase⟩, ⟨1, .phase⟩, ⟨2, .phase⟩, ⟨3, .textOnly .lateStores⟩, ⟨4, .textOnly .lateStores⟩, ⟨5, .textOnly .lateStoresUnsure⟩, ⟨6, .phase⟩, ⟨7, .phase⟩], guard := none }) rfl (fun K hK => ?_) ?_
                · (obtain ⟨hB6, -⟩ := hs.b6 _ rfl; have r0 := hB6.cell (i := 0) rfl; have r1 := hB6.cell (i := 1) rfl; have r2 := hB6.cell (i := 2) rfl; have r3 := hB6.cell (i := 3) rfl; have f0 := hB6.free 0; have f1 := hB6.free 1; have f2 := hB6.free 2; have f3 := hB6.free 3; go_simp)
                  refine hK.out _ _ (fun he => nof he) (fun hE => ?_)
                  clear hK K hE
                  try simp only [Act.put, List.setIfInBounds_toArray, List.set_cons_zero, List.set_cons_succ]
                  refine wpAnyT_ready (rs := [9]) (by kernel_rfl) rfl ?_
                  refine AllT.cons (o := { dst := none, op := Op.store 24 (Operand.tmp 12) (Operand.tmp 63), type := 0, pos := "types.go:322", after := #[⟨7, .data⟩, ⟨5, .data⟩, ⟨8, .chain⟩, ⟨0, .phase⟩, ⟨1, .phase⟩, ⟨2, .phase⟩, ⟨3, .phase⟩, ⟨4, .phase⟩, ⟨5, .phase⟩, ⟨6, .phase⟩, ⟨7, .phase⟩, ⟨8, .phase⟩], guard := none }) rfl (fun K hK => ?_) ?_
                  · (obtain ⟨hB6, -⟩ := hs.b6 _ rfl; obtain ⟨hB7, -⟩ := hs.b7 _ rfl; obtain ⟨-, hK6⟩ := four (show Blk _ _ _ [_, _, _, _] from hB6) (.int .i64 x.kind) (.string x.name) (.int .i64 x.var) (.slice Ax x.args.length cx); have hB7s := hB7.keeps hK6 (fun e => hs.ne _ _ rfl rfl e.symm); have q0 := hB7s.cell (i := 0) rfl; have q1 := hB7s.cell (i := 1) rfl; have q2 := hB7s.cell (i := 2) rfl; have q3 := hB7s.cell (i := 3) rfl; have h0 := hB7s.free 0; have h1 := hB7s.free 1; have h2 := hB7s.free 2; have h3 := hB7s.free 3; go_simp)
                    refine hK.out _ _ (fun he => nof he) (fun hE => ?_)
                    clear hK K hE
                    try simp only [Act.put, List.setIfInBounds_toArray, List.set_cons_zero, List.set_cons_succ]
                    refine wpAnyT_done (by kernel_rfl) ?_ _
                    refine NoPanic.normal ?_
                    go_wp2_with fail
                    go_meet
                    exact ⟨_, _, Ax, cx, Ay, cy, rfl, rfl, hs.fin rfl⟩
                  exact AllT.nil
                exact AllT.nil
              exact AllT.nil
            exact AllT.nil
          exact AllT.nil
        exact AllT.nil
      refine AllT.cons (o := { dst := some 62, op := Op.load 24 (Operand.tmp 3), type := 24, pos := "types.go:322", after := #[], guard := none }) rfl (fun K hK => ?_) ?_
      · go_simp
        refine hK.out _ _ (fun _ => ?_) (fun hE => ?_)
        · exact HQ9.out _ (by first | exact hs.kp | exact hs.drew.kp)
        have hS := hE (by kernel_rfl)
        clear hK K hE
        try simp only [Act.put, List.setIfInBounds_toArray, List.set_cons_zero, List.set_cons_succ]
        refine wpAnyT_ready (rs := [2, 6, 7]) (by kernel_rfl) rfl ?_
        refine AllT.cons (o := { dst := some 60, op := Op.call { callee := Callee.value (Operand.func 9), args := #[Operand.tmp 58, Operand.tmp 59], argTypes := #[25, 24] }, type := 24, pos := "types.go:322", after := #[⟨0, .data⟩, ⟨1, .data⟩], guard := none }) rfl (fun K hK => ?_) ?_
        · (go_simp; go_at_call 9; with_reducible refine (HA1.out _ (by first | exact hs.kp | exact hs.drew.kp)).mono ?_; rintro e wp ⟨Ax, cx, rfl, hT, hk⟩; (first | replace hs := hs.callx hT hk | replace hs := hs.drew.callx hT hk); clear hT hk; go_wp2_with fail)
          refine hK.out _ _ (fun _ => ?_) (fun hE => ?_)
          · exact HQ9.out _ (by first | exact hs.kp | exact hs.drew.kp)
          have hS := hE (by kernel_rfl)
          clear hK K hE
          try simp only [Act.put, List.setIfInBounds_toArray, List.set_cons_zero, List.set_cons_succ]
          refine wpAnyT_ready (rs := [5, 6, 7]) (by kernel_rfl) rfl ?_
          refine AllT.cons (o := { dst := some 63, op := Op.call { callee := Callee.value (Operand.func 9), args := #[Operand.tmp 61, Operand.tmp 62], argTypes := #[25, 24] }, type := 24, pos := "types.go:322", after := #[⟨3, .data⟩, ⟨4, .data⟩, ⟨2, .chain⟩], guard := none }) rfl (fun K hK => ?_) ?_
          · (go_simp; go_at_call 9; with_reducible refine (HA2.out _ (by first | exact hs.kp | exact hs.drew.kp)).mono ?_; rintro e wr ⟨Ay, cy, rfl, hT, hk⟩; (first | replace hs := hs.cally hT hk | replace hs := hs.drew.cally hT hk); clear hT hk; go_wp2_with fail)
            refine hK.out _ _ (fun _ => ?_) (fun hE => ?_)
            · exact HQ9.out _ (by first | exact hs.kp | exact hs.drew.kp)
            have hS := hE (by kernel_rfl)
            clear hK K hE
            try simp only [Act.put, List.setIfInBounds_toArray, List.set_cons_zero, List.set_cons_succ]
            refine wpAnyT_ready (rs := [6, 7]) (by kernel_rfl) rfl ?_
            refine AllT.cons (o := { dst := some 11, op := Op.alloc 24, type := 0, pos := "types.go:322", after := #[], guard := none }) rfl (fun K hK => ?_) ?_
            · (go_simp; refine name_world ?_; intro wz6 hw; (first | replace hs := hs.box6 hw | replace hs := hs.drew.box6 hw | replace hs := hs.box6d hw | replace hs := hs.drew.box6d hw); (try rw [drew_size] at hs); clear hw)
              refine hK.out _ _ (fun _ => ?_) (fun hE => ?_)
              · exact HQ9.out _ (by first | exact hs.kp | exact hs.drew.kp)
              have hS := hE (by kernel_rfl)
              clear hK K hE
              try simp only [Act.put, List.setIfInBounds_toArray, List.set_cons_zero, List.set_cons_succ]
              refine wpAnyT_ready (rs := [7]) (by kernel_rfl) rfl ?_
              refine AllT.cons (o := { dst := some 12, op := Op.alloc 24, type := 0, pos := "types.go:322", after := #[], guard := none }) rfl (fun K hK => ?_) ?_
              · (go_simp; refine name_world ?_; intro wz7 hw; (first | replace hs := hs.box7 hw | replace hs := hs.drew.box7 hw | replace hs := hs.box7d hw | replace hs := hs.drew.box7d hw); (try rw [drew_size] at hs); clear hw)
                refine hK.out _ _ (fun _ => ?_) (fun hE => ?_)
                · exact HQ9.out _ (by first | exact hs.kp | exact hs.drew.kp)
                have hS := hE (by kernel_rfl)
                clear hK K hE
                try simp only [Act.put, List.setIfInBounds_toArray, List.set_cons_zero, List.set_cons_succ]
                refine wpAnyT_ready (rs := [8]) (by kernel_rfl) rfl ?_
                refine AllT.cons (o := { dst := none, op := Op.store 24 (Operand.tmp 11) (Operand.tmp 60), type := 0, pos := "types.go:322", after := #[⟨6, .data⟩, ⟨2, .data⟩, ⟨5, .chain⟩, ⟨0, .phase⟩, ⟨1, .phase⟩, ⟨2, .phase⟩, ⟨3, .textOnly .lateStores⟩, ⟨4, .textOnly .lateStores⟩, ⟨5, .textOnly .lateStoresUnsure⟩, ⟨6, .phase⟩, ⟨7, .phase⟩], guard := none }) rfl (fun K hK => ?_) ?_
                · (obtain ⟨hB6, -⟩ := hs.b6 _ rfl; have r0 := hB6.cell (i := 0) rfl; have r1 := hB6.cell (i := 1) rfl; have r2 := hB6.cell (i := 2) rfl; have r3 := hB6.cell (i := 3) rfl; have f0 := hB6.free 0; have f1 := hB6.free 1; have f2 := hB6.free 2; have f3 := hB6.free 3; go_simp)
                  refine hK.out _ _ (fun he => nof he) (fun hE => ?_)
                  clear hK K hE
                  try simp only [Act.put, List.setIfInBounds_toArray, List.set_cons_zero, List.set_cons_succ]
                  refine wpAnyT_ready (rs := [9]) (by kernel_rfl) rfl ?_
                  refine AllT.cons (o := { dst := none, op := Op.store 24 (Operand.tmp 12) (Operand.tmp 63), type := 0, pos := "types.go:322", after := #[⟨7, .data⟩, ⟨5, .data⟩, ⟨8, .chain⟩, ⟨0, .phase⟩, ⟨1, .phase⟩, ⟨2, .phase⟩, ⟨3, .phase⟩, ⟨4, .phase⟩, ⟨5, .phase⟩, ⟨6, .phase⟩, ⟨7, .phase⟩, ⟨8, .phase⟩], guard := none }) rfl (fun K hK => ?_) ?_
                  · (obtain ⟨hB6, -⟩ := hs.b6 _ rfl; obtain ⟨hB7, -⟩ := hs.b7 _ rfl; obtain ⟨-, hK6⟩ := four (show Blk _ _ _ [_, _, _, _] from hB6) (.int .i64 x.kind) (.string x.name) (.int .i64 x.var) (.slice Ax x.args.length cx); have hB7s := hB7.keeps hK6 (fun e => hs.ne _ _ rfl rfl e.symm); have q0 := hB7s.cell (i := 0) rfl; have q1 := hB7s.cell (i := 1) rfl; have q2 := hB7s.cell (i := 2) rfl; have q3 := hB7s.cell (i := 3) rfl; have h0 := hB7s.free 0; have h1 := hB7s.free 1; have h2 := hB7s.free 2; have h3 := hB7s.free 3; go_simp)
                    refine hK.out _ _ (fun he => nof he) (fun hE => ?_)
                    clear hK K hE
                    try simp only [Act.put, List.setIfInBounds_toArray, List.set_cons_zero, List.set_cons_succ]
                    refine wpAnyT_done (by kernel_rfl) ?_ _
                    refine NoPanic.normal ?_
                    go_wp2_with fail
                    go_meet
                    exact ⟨_, _, Ax, cx, Ay, cy, rfl, rfl, hs.fin rfl⟩
                  exact AllT.nil
                exact AllT.nil
              exact AllT.nil
            refine AllT.cons (o := { dst := some 12, op := Op.alloc 24, type := 0, pos := "types.go:322", after := #[], guard := none }) rfl (fun K hK => ?_) ?_
            · (go_simp; refine name_world ?_; intro wz7 hw; (first | replace hs := hs.box7 hw | replace hs := hs.drew.box7 hw | replace hs := hs.box7d hw | replace hs := hs.drew.box7d hw); (try rw [drew_size] at hs); clear hw)
              refine hK.out _ _ (fun _ => ?_) (fun hE => ?_)
              · exact HQ9.out _ (by first | exact hs.kp | exact hs.drew.kp)
              have hS := hE (by kernel_rfl)
              clear hK K hE
              try simp only [Act.put, List.setIfInBounds_toArray, List.set_cons_zero, List.set_cons_succ]
              refine wpAnyT_ready (rs := [6]) (by kernel_rfl) rfl ?_
              refine AllT.cons (o := { dst := some 11, op := Op.alloc 24, type := 0, pos := "types.go:322", after := #[], guard := none }) rfl (fun K hK => ?_) ?_
              · (go_simp; refine name_world ?_; intro wz6 hw; (first | replace hs := hs.box6 hw | replace hs := hs.drew.box6 hw | replace hs := hs.box6d hw | replace hs := hs.drew.box6d hw); (try rw [drew_size] at hs); clear hw)
                refine hK.out _ _ (fun _ => ?_) (fun hE => ?_)
                · exact HQ9.out _ (by first | exact hs.kp | exact hs.drew.kp)
                have hS := hE (by kernel_rfl)
                clear hK K hE
                try simp only [Act.put, List.setIfInBounds_toArray, List.set_cons_zero, List.set_cons_succ]
                refine wpAnyT_ready (rs := [8]) (by kernel_rfl) rfl ?_
                refine AllT.cons (o := { dst := none, op := Op.store 24 (Operand.tmp 11) (Operand.tmp 60), type := 0, pos := "types.go:322", after := #[⟨6, .data⟩, ⟨2, .data⟩, ⟨5, .chain⟩, ⟨0, .phase⟩, ⟨1, .phase⟩, ⟨2, .phase⟩, ⟨3, .textOnly .lateStores⟩, ⟨4, .textOnly .lateStores⟩, ⟨5, .textOnly .lateStoresUnsure⟩, ⟨6, .phase⟩, ⟨7, .phase⟩], guard := none }) rfl (fun K hK => ?_) ?_
                · (obtain ⟨hB6, -⟩ := hs.b6 _ rfl; have r0 := hB6.cell (i := 0) rfl; have r1 := hB6.cell (i := 1) rfl; have r2 := hB6.cell (i := 2) rfl; have r3 := hB6.cell (i := 3) rfl; have f0 := hB6.free 0; have f1 := hB6.free 1; have f2 := hB6.free 2; have f3 := hB6.free 3; go_simp)
                  refine hK.out _ _ (fun he => nof he) (fun hE => ?_)
                  clear hK K hE
                  try simp only [Act.put, List.setIfInBounds_toArray, List.set_cons_zero, List.set_cons_succ]
                  refine wpAnyT_ready (rs := [9]) (by kernel_rfl) rfl ?_
                  refine AllT.cons (o := { dst := none, op := Op.store 24 (Operand.tmp 12) (Operand.tmp 63), type := 0, pos := "types.go:322", after := #[⟨7, .data⟩, ⟨5, .data⟩, ⟨8, .chain⟩, ⟨0, .phase⟩, ⟨1, .phase⟩, ⟨2, .phase⟩, ⟨3, .phase⟩, ⟨4, .phase⟩, ⟨5, .phase⟩, ⟨6, .phase⟩, ⟨7, .phase⟩, ⟨8, .phase⟩], guard := none }) rfl (fun K hK => ?_) ?_
                  · (obtain ⟨hB6, -⟩ := hs.b6 _ rfl; obtain ⟨hB7, -⟩ := hs.b7 _ rfl; obtain ⟨-, hK6⟩ := four (show Blk _ _ _ [_, _, _, _] from hB6) (.int .i64 x.kind) (.string x.name) (.int .i64 x.var) (.slice Ax x.args.length cx); have hB7s := hB7.keeps hK6 (fun e => hs.ne _ _ rfl rfl e.symm); have q0 := hB7s.cell (i := 0) rfl; have q1 := hB7s.cell (i := 1) rfl; have q2 := hB7s.cell (i := 2) rfl; have q3 := hB7s.cell (i := 3) rfl; have h0 := hB7s.free 0; have h1 := hB7s.free 1; have h2 := hB7s.free 2; have h3 := hB7s.free 3; go_simp)
                    refine hK.out _ _ (fun he => nof he) (fun hE => ?_)
                    clear hK K hE
                    try simp only [Act.put, List.setIfInBounds_toArray, List.set_cons_zero, List.set_cons_succ]
                    refine wpAnyT_done (by kernel_rfl) ?_ _
                    refine NoPanic.normal ?_
                    go_wp2_with fail
                    go_meet
                    exact ⟨_, _, Ax, cx, Ay, cy, rfl, rfl, hs.fin rfl⟩
                  exact AllT.nil
                exact AllT.nil
              exact AllT.nil
            exact AllT.nil
          refine AllT.cons (o := { dst := some 11, op := Op.alloc 24, type := 0, pos := "types.go:322", after := #[], guard := none }) rfl (fun K hK => ?_) ?_
          · (go_simp; refine name_world ?_; intro wz6 hw; (first | replace hs := hs.box6 hw | replace hs := hs.drew.box6 hw | replace hs := hs.box6d hw | replace hs := hs.drew.box6d hw); (try rw [drew_size] at hs); clear hw)
            refine hK.out _ _ (fun _ => ?_) (fun hE => ?_)
            · exact HQ9.out _ (by first | exact hs.kp | exact hs.drew.kp)
            have hS := hE (by kernel_rfl)
            clear hK K hE
            try simp only [Act.put, List.setIfInBounds_toArray, List.set_cons_zero, List.set_cons_succ]
            refine wpAnyT_ready (rs := [5, 7]) (by kernel_rfl) rfl ?_
            refine AllT.cons (o := { dst := some 63, op := Op.call { callee := Callee.value (Operand.func 9), args := #[Operand.tmp 61, Operand.tmp 62], argTypes := #[25, 24] }, type := 24, pos := "types.go:322", after := #[⟨3, .data⟩, ⟨4, .data⟩, ⟨2, .chain⟩], guard := none }) rfl (fun K hK => ?_) ?_
            · (go_simp; go_at_call 9; with_reducible refine (HA2.out _ (by first | exact hs.kp | exact hs.drew.kp)).mono ?_; rintro e wr ⟨Ay, cy, rfl, hT, hk⟩; (first | replace hs := hs.cally hT hk | replace hs := hs.drew.cally hT hk); clear hT hk; go_wp2_with fail)
              refine hK.out _ _ (fun _ => ?_) (fun hE => ?_)
              · exact HQ9.out _ (by first | exact hs.kp | exact hs.drew.kp)
              have hS := hE (by kernel_rfl)
              clear hK K hE
              try simp only [Act.put, List.setIfInBounds_toArray, List.set_cons_zero, List.set_cons_succ]
              refine wpAnyT_ready (rs := [7]) (by kernel_rfl) rfl ?_
              refine AllT.cons (o := { dst := some 12, op := Op.alloc 24, type := 0, pos := "types.go:322", after := #[], guard := none }) rfl (fun K hK => ?_) ?_
              · (go_simp; refine name_world ?_; intro wz7 hw; (first | replace hs := hs.box7 hw | replace hs := hs.drew.box7 hw | replace hs := hs.box7d hw | replace hs := hs.drew.box7d hw); (try rw [drew_size] at hs); clear hw)
                refine hK.out _ _ (fun _ => ?_) (fun hE => ?_)
                · exact HQ9.out _ (by first | exact hs.kp | exact hs.drew.kp)
                have hS := hE (by kernel_rfl)
                clear hK K hE
                try simp only [Act.put, List.setIfInBounds_toArray, List.set_cons_zero, List.set_cons_succ]
                refine wpAnyT_ready (rs := [8]) (by kernel_rfl) rfl ?_
                refine AllT.cons (o := { dst := none, op := Op.store 24 (Operand.tmp 11) (Operand.tmp 60), type := 0, pos := "types.go:322", after := #[⟨6, .data⟩, ⟨2, .data⟩, ⟨5, .chain⟩, ⟨0, .phase⟩, ⟨1, .phase⟩, ⟨2, .phase⟩, ⟨3, .textOnly .lateStores⟩, ⟨4, .textOnly .lateStores⟩, ⟨5, .textOnly .lateStoresUnsure⟩, ⟨6, .phase⟩, ⟨7, .phase⟩], guard := none }) rfl (fun K hK => ?_) ?_
                · (obtain ⟨hB6, -⟩ := hs.b6 _ rfl; have r0 := hB6.cell (i := 0) rfl; have r1 := hB6.cell (i := 1) rfl; have r2 := hB6.cell (i := 2) rfl; have r3 := hB6.cell (i := 3) rfl; have f0 := hB6.free 0; have f1 := hB6.free 1; have f2 := hB6.free 2; have f3 := hB6.free 3; go_simp)
                  refine hK.out _ _ (fun he => nof he) (fun hE => ?_)
                  clear hK K hE
                  try simp only [Act.put, List.setIfInBounds_toArray, List.set_cons_zero, List.set_cons_succ]
                  refine wpAnyT_ready (rs := [9]) (by kernel_rfl) rfl ?_
                  refine AllT.cons (o := { dst := none, op := Op.store 24 (Operand.tmp 12) (Operand.tmp 63), type := 0, pos := "types.go:322", after := #[⟨7, .data⟩, ⟨5, .data⟩, ⟨8, .chain⟩, ⟨0, .phase⟩, ⟨1, .phase⟩, ⟨2, .phase⟩, ⟨3, .phase⟩, ⟨4, .phase⟩, ⟨5, .phase⟩, ⟨6, .phase⟩, ⟨7, .phase⟩, ⟨8, .phase⟩], guard := none }) rfl (fun K hK => ?_) ?_
                  · (obtain ⟨hB6, -⟩ := hs.b6 _ rfl; obtain ⟨hB7, -⟩ := hs.b7 _ rfl; obtain ⟨-, hK6⟩ := four (show Blk _ _ _ [_, _, _, _] from hB6) (.int .i64 x.kind) (.string x.name) (.int .i64 x.var) (.slice Ax x.args.length cx); have hB7s := hB7.keeps hK6 (fun e => hs.ne _ _ rfl rfl e.symm); have q0 := hB7s.cell (i := 0) rfl; have q1 := hB7s.cell (i := 1) rfl; have q2 := hB7s.cell (i := 2) rfl; have q3 := hB7s.cell (i := 3) rfl; have h0 := hB7s.free 0; have h1 := hB7s.free 1; have h2 := hB7s.free 2; have h3 := hB7s.free 3; go_simp)
                    refine hK.out _ _ (fun he => nof he) (fun hE => ?_)
                    clear hK K hE
                    try simp only [Act.put, List.setIfInBounds_toArray, List.set_cons_zero, List.set_cons_succ]
                    refine wpAnyT_done (by kernel_rfl) ?_ _
                    refine NoPanic.normal ?_
                    go_wp2_with fail
                    go_meet
                    exact ⟨_, _, Ax, cx, Ay, cy, rfl, rfl, hs.fin rfl⟩
                  exact AllT.nil
                exact AllT.nil
              exact AllT.nil
            refine AllT.cons (o := { dst := some 12, op := Op.alloc 24, type := 0, pos := "types.go:322", after := #[], guard := none }) rfl (fun K hK => ?_) ?_
            · (go_simp; refine name_world ?_; intro wz7 hw; (first | replace hs := hs.box7 hw | replace hs := hs.drew.box7 hw | replace hs := hs.box7d hw | replace hs := hs.drew.box7d hw); (try rw [drew_size] at hs); clear hw)
              refine hK.out _ _ (fun _ => ?_) (fun hE => ?_)
              · exact HQ9.out _ (by first | exact hs.kp | exact hs.drew.kp)
              have hS := hE (by kernel_rfl)
              clear hK K hE
              try simp only [Act.put, List.setIfInBounds_toArray, List.set_cons_zero, List.set_cons_succ]
              refine wpAnyT_ready (rs := [5]) (by kernel_rfl) rfl ?_
              refine AllT.cons (o := { dst := some 63, op := Op.call { callee := Callee.value (Operand.func 9), args := #[Operand.tmp 61, Operand.tmp 62], argTypes := #[25, 24] }, type := 24, pos := "types.go:322", after := #[⟨3, .data⟩, ⟨4, .data⟩, ⟨2, .chain⟩], guard := none }) rfl (fun K hK => ?_) ?_
              · (go_simp; go_at_call 9; with_reducible refine (HA2.out _ (by first | exact hs.kp | exact hs.drew.kp)).mono ?_; rintro e wr ⟨Ay, cy, rfl, hT, hk⟩; (first | replace hs := hs.cally hT hk | replace hs := hs.drew.cally hT hk); clear hT hk; go_wp2_with fail)
                refine hK.out _ _ (fun _ => ?_) (fun hE => ?_)
                · exact HQ9.out _ (by first | exact hs.kp | exact hs.drew.kp)
                have hS := hE (by kernel_rfl)
                clear hK K hE
                try simp only [Act.put, List.setIfInBounds_toArray, List.set_cons_zero, List.set_cons_succ]
                refine wpAnyT_ready (rs := [8]) (by kernel_rfl) rfl ?_
                refine AllT.cons (o := { dst := none, op := Op.store 24 (Operand.tmp 11) (Operand.tmp 60), type := 0, pos := "types.go:322", after := #[⟨6, .data⟩, ⟨2, .data⟩, ⟨5, .chain⟩, ⟨0, .phase⟩, ⟨1, .phase⟩, ⟨2, .phase⟩, ⟨3, .textOnly .lateStores⟩, ⟨4, .textOnly .lateStores⟩, ⟨5, .textOnly .lateStoresUnsure⟩, ⟨6, .phase⟩, ⟨7, .phase⟩], guard := none }) rfl (fun K hK => ?_) ?_
                · (obtain ⟨hB6, -⟩ := hs.b6 _ rfl; have r0 := hB6.cell (i := 0) rfl; have r1 := hB6.cell (i := 1) rfl; have r2 := hB6.cell (i := 2) rfl; have r3 := hB6.cell (i := 3) rfl; have f0 := hB6.free 0; have f1 := hB6.free 1; have f2 := hB6.free 2; have f3 := hB6.free 3; go_simp)
                  refine hK.out _ _ (fun he => nof he) (fun hE => ?_)
                  clear hK K hE
                  try simp only [Act.put, List.setIfInBounds_toArray, List.set_cons_zero, List.set_cons_succ]
                  refine wpAnyT_ready (rs := [9]) (by kernel_rfl) rfl ?_
                  refine AllT.cons (o := { dst := none, op := Op.store 24 (Operand.tmp 12) (Operand.tmp 63), type := 0, pos := "types.go:322", after := #[⟨7, .data⟩, ⟨5, .data⟩, ⟨8, .chain⟩, ⟨0, .phase⟩, ⟨1, .phase⟩, ⟨2, .phase⟩, ⟨3, .phase⟩, ⟨4, .phase⟩, ⟨5, .phase⟩, ⟨6, .phase⟩, ⟨7, .phase⟩, ⟨8, .phase⟩], guard := none }) rfl (fun K hK => ?_) ?_
                  · (obtain ⟨hB6, -⟩ := hs.b6 _ rfl; obtain ⟨hB7, -⟩ := hs.b7 _ rfl; obtain ⟨-, hK6⟩ := four (show Blk _ _ _ [_, _, _, _] from hB6) (.int .i64 x.kind) (.string x.name) (.int .i64 x.var) (.slice Ax x.args.length cx); have hB7s := hB7.keeps hK6 (fun e => hs.ne _ _ rfl rfl e.symm); have q0 := hB7s.cell (i := 0) rfl; have q1 := hB7s.cell (i := 1) rfl; have q2 := hB7s.cell (i := 2) rfl; have q3 := hB7s.cell (i := 3) rfl; have h0 := hB7s.free 0; have h1 := hB7s.free 1; have h2 := hB7s.free 2; have h3 := hB7s.free 3; go_simp)
                    refine hK.out _ _ (fun he => nof he) (fun hE => ?_)
                    clear hK K hE
                    try simp only [Act.put, List.setIfInBounds_toArray, List.set_cons_zero, List.set_cons_succ]
                    refine wpAnyT_done (by kernel_rfl) ?_ _
                    refine NoPanic.normal ?_
                    go_wp2_with fail
                    go_meet
                    exact ⟨_, _, Ax, cx, Ay, cy, rfl, rfl, hs.fin rfl⟩
                  exact AllT.nil
                exact AllT.nil
              exact AllT.nil
            exact AllT.nil
          refine AllT.cons (o := { dst := some 12, op := Op.alloc 24, type := 0, pos := "types.go:322", after := #[], guard := none }) rfl (fun K hK => ?_) ?_
          · (go_simp; refine name_world ?_; intro wz7 hw; (first | replace hs := hs.box7 hw | replace hs := hs.drew.box7 hw | replace hs := hs.box7d hw | replace hs := hs.drew.box7d hw); (try rw [drew_size] at hs); clear hw)
            refine hK.out _ _ (fun _ => ?_) (fun hE => ?_)
            · exact HQ9.out _ (by first | exact hs.kp | exact hs.drew.kp)
            have hS := hE (by kernel_rfl)
            clear hK K hE
            try simp only [Act.put, List.setIfInBounds_toArray, List.set_cons_zero, List.set_cons_succ]
            refine wpAnyT_ready (rs := [5, 6]) (by kernel_rfl) rfl ?_
            refine AllT.cons (o := { dst := some 63, op := Op.call { callee := Callee.value (Operand.func 9), args := #[Operand.tmp 61, Operand.tmp 62], argTypes := #[25, 24] }, type := 24, pos := "types.go:322", after := #[⟨3, .data⟩, ⟨4, .data⟩, ⟨2, .chain⟩], guard := none }) rfl (fun K hK => ?_) ?_
            · (go_simp; go_at_call 9; with_reducible refine (HA2.out _ (by first | exact hs.kp | exact hs.drew.kp)).mono ?_; rintro e wr ⟨Ay, cy, rfl, hT, hk⟩; (first | replace hs := hs.cally hT hk | replace hs := hs.drew.cally hT hk); clear hT hk; go_wp2_with fail)
              refine hK.out _ _ (fun _ => ?_) (fun hE => ?_)
              · exact HQ9.out _ (by first | exact hs.kp | exact hs.drew.kp)
              have hS := hE (by kernel_rfl)
              clear hK K hE
              try simp only [Act.put, List.setIfInBounds_toArray, List.set_cons_zero, List.set_cons_succ]
              refine wpAnyT_ready (rs := [6]) (by kernel_rfl) rfl ?_
              refine AllT.cons (o := { dst := some 11, op := Op.alloc 24, type := 0, pos := "types.go:322", after := #[], guard := none }) rfl (fun K hK => ?_) ?_
              · (go_simp; refine name_world ?_; intro wz6 hw; (first | replace hs := hs.box6 hw | replace hs := hs.drew.box6 hw | replace hs := hs.box6d hw | replace hs := hs.drew.box6d hw); (try rw [drew_size] at hs); clear hw)
                refine hK.out _ _ (fun _ => ?_) (fun hE => ?_)
                · exact HQ9.out _ (by first | exact hs.kp | exact hs.drew.kp)
                have hS := hE (by kernel_rfl)
                clear hK K hE
                try simp only [Act.put, List.setIfInBounds_toArray, List.set_cons_zero, List.set_cons_succ]
                refine wpAnyT_ready (rs := [8]) (by kernel_rfl) rfl ?_
                refine AllT.cons (o := { dst := none, op := Op.store 24 (Operand.tmp 11) (Operand.tmp 60), type := 0, pos := "types.go:322", after := #[⟨6, .data⟩, ⟨2, .data⟩, ⟨5, .chain⟩, ⟨0, .phase⟩, ⟨1, .phase⟩, ⟨2, .phase⟩, ⟨3, .textOnly .lateStores⟩, ⟨4, .textOnly .lateStores⟩, ⟨5, .textOnly .lateStoresUnsure⟩, ⟨6, .phase⟩, ⟨7, .phase⟩], guard := none }) rfl (fun K hK => ?_) ?_
                · (obtain ⟨hB6, -⟩ := hs.b6 _ rfl; have r0 := hB6.cell (i := 0) rfl; have r1 := hB6.cell (i := 1) rfl; have r2 := hB6.cell (i := 2) rfl; have r3 := hB6.cell (i := 3) rfl; have f0 := hB6.free 0; have f1 := hB6.free 1; have f2 := hB6.free 2; have f3 := hB6.free 3; go_simp)
                  refine hK.out _ _ (fun he => nof he) (fun hE => ?_)
                  clear hK K hE
                  try simp only [Act.put, List.setIfInBounds_toArray, List.set_cons_zero, List.set_cons_succ]
                  refine wpAnyT_ready (rs := [9]) (by kernel_rfl) rfl ?_
                  refine AllT.cons (o := { dst := none, op := Op.store 24 (Operand.tmp 12) (Operand.tmp 63), type := 0, pos := "types.go:322", after := #[⟨7, .data⟩, ⟨5, .data⟩, ⟨8, .chain⟩, ⟨0, .phase⟩, ⟨1, .phase⟩, ⟨2, .phase⟩, ⟨3, .phase⟩, ⟨4, .phase⟩, ⟨5, .phase⟩, ⟨6, .phase⟩, ⟨7, .phase⟩, ⟨8, .phase⟩], guard := none }) rfl (fun K hK => ?_) ?_
                  · (obtain ⟨hB6, -⟩ := hs.b6 _ rfl; obtain ⟨hB7, -⟩ := hs.b7 _ rfl; obtain ⟨-, hK6⟩ := four (show Blk _ _ _ [_, _, _, _] from hB6) (.int .i64 x.kind) (.string x.name) (.int .i64 x.var) (.slice Ax x.args.length cx); have hB7s := hB7.keeps hK6 (fun e => hs.ne _ _ rfl rfl e.symm); have q0 := hB7s.cell (i := 0) rfl; have q1 := hB7s.cell (i := 1) rfl; have q2 := hB7s.cell (i := 2) rfl; have q3 := hB7s.cell (i := 3) rfl; have h0 := hB7s.free 0; have h1 := hB7s.free 1; have h2 := hB7s.free 2; have h3 := hB7s.free 3; go_simp)
                    refine hK.out _ _ (fun he => nof he) (fun hE => ?_)
                    clear hK K hE
                    try simp only [Act.put, List.setIfInBounds_toArray, List.set_cons_zero, List.set_cons_succ]
                    refine wpAnyT_done (by kernel_rfl) ?_ _
                    refine NoPanic.normal ?_
                    go_wp2_with fail
                    go_meet
                    exact ⟨_, _, Ax, cx, Ay, cy, rfl, rfl, hs.fin rfl⟩
                  exact AllT.nil
                exact AllT.nil
              exact AllT.nil
            refine AllT.cons (o := { dst := some 11, op := Op.alloc 24, type := 0, pos := "types.go:322", after := #[], guard := none }) rfl (fun K hK => ?_) ?_
            · (go_simp; refine name_world ?_; intro wz6 hw; (first | replace hs := hs.box6 hw | replace hs := hs.drew.box6 hw | replace hs := hs.box6d hw | replace hs := hs.drew.box6d hw); (try rw [drew_size] at hs); clear hw)
              refine hK.out _ _ (fun _ => ?_) (fun hE => ?_)
              · exact HQ9.out _ (by first | exact hs.kp | exact hs.drew.kp)
              have hS := hE (by kernel_rfl)
              clear hK K hE
              try simp only [Act.put, List.setIfInBounds_toArray, List.set_cons_zero, List.set_cons_succ]
              refine wpAnyT_ready (rs := [5]) (by kernel_rfl) rfl ?_
              refine AllT.cons (o := { dst := some 63, op := Op.call { callee := Callee.value (Operand.func 9), args := #[Operand.tmp 61, Operand.tmp 62], argTypes := #[25, 24] }, type := 24, pos := "types.go:322", after := #[⟨3, .data⟩, ⟨4, .data⟩, ⟨2, .chain⟩], guard := none }) rfl (fun K hK => ?_) ?_
              · (go_simp; go_at_call 9; with_reducible refine (HA2.out _ (by first | exact hs.kp | exact hs.drew.kp)).mono ?_; rintro e wr ⟨Ay, cy, rfl, hT, hk⟩; (first | replace hs := hs.cally hT hk | replace hs := hs.drew.cally hT hk); clear hT hk; go_wp2_with fail)
                refine hK.out _ _ (fun _ => ?_) (fun hE => ?_)
                · exact HQ9.out _ (by first | exact hs.kp | exact hs.drew.kp)
                have hS := hE (by kernel_rfl)
                clear hK K hE
                try simp only [Act.put, List.setIfInBounds_toArray, List.set_cons_zero, List.set_cons_succ]
                refine wpAnyT_ready (rs := [8]) (by kernel_rfl) rfl ?_
                refine AllT.cons (o := { dst := none, op := Op.store 24 (Operand.tmp 11) (Operand.tmp 60), type := 0, pos := "types.go:322", after := #[⟨6, .data⟩, ⟨2, .data⟩, ⟨5, .chain⟩, ⟨0, .phase⟩, ⟨1, .phase⟩, ⟨2, .phase⟩, ⟨3, .textOnly .lateStores⟩, ⟨4, .textOnly .lateStores⟩, ⟨5, .textOnly .lateStoresUnsure⟩, ⟨6, .phase⟩, ⟨7, .phase⟩], guard := none }) rfl (fun K hK => ?_) ?_
                · (obtain ⟨hB6, -⟩ := hs.b6 _ rfl; have r0 := hB6.cell (i := 0) rfl; have r1 := hB6.cell (i := 1) rfl; have r2 := hB6.cell (i := 2) rfl; have r3 := hB6.cell (i := 3) rfl; have f0 := hB6.free 0; have f1 := hB6.free 1; have f2 := hB6.free 2; have f3 := hB6.free 3; go_simp)
                  refine hK.out _ _ (fun he => nof he) (fun hE => ?_)
                  clear hK K hE
                  try simp only [Act.put, List.setIfInBounds_toArray, List.set_cons_zero, List.set_cons_succ]
                  refine wpAnyT_ready (rs := [9]) (by kernel_rfl) rfl ?_
                  refine AllT.cons (o := { dst := none, op := Op.store 24 (Operand.tmp 12) (Operand.tmp 63), type := 0, pos := "types.go:322", after := #[⟨7, .data⟩, ⟨5, .data⟩, ⟨8, .chain⟩, ⟨0, .phase⟩, ⟨1, .phase⟩, ⟨2, .phase⟩, ⟨3, .phase⟩, ⟨4, .phase⟩, ⟨5, .phase⟩, ⟨6, .phase⟩, ⟨7, .phase⟩, ⟨8, .phase⟩], guard := none }) rfl (fun K hK => ?_) ?_
                  · (obtain ⟨hB6, -⟩ := hs.b6 _ rfl; obtain ⟨hB7, -⟩ := hs.b7 _ rfl; obtain ⟨-, hK6⟩ := four (show Blk _ _ _ [_, _, _, _] from hB6) (.int .i64 x.kind) (.string x.name) (.int .i64 x.var) (.slice Ax x.args.length cx); have hB7s := hB7.keeps hK6 (fun e => hs.ne _ _ rfl rfl e.symm); have q0 := hB7s.cell (i := 0) rfl; have q1 := hB7s.cell (i := 1) rfl; have q2 := hB7s.cell (i := 2) rfl; have q3 := hB7s.cell (i := 3) rfl; have h0 := hB7s.free 0; have h1 := hB7s.free 1; have h2 := hB7s.free 2; have h3 := hB7s.free 3; go_simp)
                    refine hK.out _ _ (fun he => nof he) (fun hE => ?_)
                    clear hK K hE
                    try simp only [Act.put, List.setIfInBounds_toArray, List.set_cons_zero, List.set_cons_succ]
                    refine wpAnyT_done (by kernel_rfl) ?_ _
                    refine NoPanic.normal ?_
                    go_wp2_with fail
                    go_meet
                    exact ⟨_, _, Ax, cx, Ay, cy, rfl, rfl, hs.fin rfl⟩
                  exact AllT.nil
                exact AllT.nil
              exact AllT.nil
            exact AllT.nil
          exact AllT.nil
        refine AllT.cons (o := { dst := some 11, op := Op.alloc 24, type := 0, pos := "types.go:322", after := #[], guard := none }) rfl (fun K hK => ?_) ?_
        · (go_simp; refine name_world ?_; intro wz6 hw; (first | replace hs := hs.box6 hw | replace hs := hs.drew.box6 hw | replace hs := hs.box6d hw | replace hs := hs.drew.box6d hw); (try rw [drew_size] at hs); clear hw)
          refine hK.out _ _ (fun _ => ?_) (fun hE => ?_)
          · exact HQ9.out _ (by first | exact hs.kp | exact hs.drew.kp)
          have hS := hE (by kernel_rfl)
          clear hK K hE
          try simp only [Act.put, List.setIfInBounds_toArray, List.set_cons_zero, List.set_cons_succ]
          refine wpAnyT_ready (rs := [2, 7]) (by kernel_rfl) rfl ?_
          refine AllT.cons (o := { dst := some 60, op := Op.call { callee := Callee.value (Operand.func 9), args := #[Operand.tmp 58, Operand.tmp 59], argTypes := #[25, 24] }, type := 24, pos := "types.go:322", after := #[⟨0, .data⟩, ⟨1, .data⟩], guard := none }) rfl (fun K hK => ?_) ?_
          · (go_simp; go_at_call 9; with_reducible refine (HA1.out _ (by first | exact hs.kp | exact hs.drew.kp)).mono ?_; rintro e wp ⟨Ax, cx, rfl, hT, hk⟩; (first | replace hs := hs.callx hT hk | replace hs := hs.drew.callx hT hk); clear hT hk; go_wp2_with fail)
            refine hK.out _ _ (fun _ => ?_) (fun hE => ?_)
            · exact HQ9.out _ (by first | exact hs.kp | exact hs.drew.kp)
            have hS := hE (by kernel_rfl)
            clear hK K hE
            try simp only [Act.put, List.setIfInBounds_toArray, List.set_cons_zero, List.set_cons_succ]
            refine wpAnyT_ready (rs := [5, 7]) (by kernel_rfl) rfl ?_
            refine AllT.cons (o := { dst := some 63, op := Op.call { callee := Callee.value (Operand.func 9), args := #[Operand.tmp 61, Operand.tmp 62], argTypes := #[25, 24] }, type := 24, pos := "types.go:322", after := #[⟨3, .data⟩, ⟨4, .data⟩, ⟨2, .chain⟩], guard := none }) rfl (fun K hK => ?_) ?_
            · (go_simp; go_at_call 9; with_reducible refine (HA2.out _ (by first | exact hs.kp | exact hs.drew.kp)).mono ?_; rintro e wr ⟨Ay, cy, rfl, hT, hk⟩; (first | replace hs := hs.cally hT hk | replace hs := hs.drew.cally hT hk); clear hT hk; go_wp2_with fail)
              refine hK.out _ _ (fun _ => ?_) (fun hE => ?_)
              · exact HQ9.out _ (by first | exact hs.kp | exact hs.drew.kp)
              have hS := hE (by kernel_rfl)
              clear hK K hE
              try simp only [Act.put, List.setIfInBounds_toArray, List.set_cons_zero, List.set_cons_succ]
              refine wpAnyT_ready (rs := [7]) (by kernel_rfl) rfl ?_
              refine AllT.cons (o := { dst := some 12, op := Op.alloc 24, type := 0, pos := "types.go:322", after := #[], guard := none }) rfl (fun K hK => ?_) ?_
              · (go_simp; refine name_world ?_; intro wz7 hw; (first | replace hs := hs.box7 hw | replace hs := hs.drew.box7 hw | replace hs := hs.box7d hw | replace hs := hs.drew.box7d hw); (try rw [drew_size] at hs); clear hw)
                refine hK.out _ _ (fun _ => ?_) (fun hE => ?_)
                · exact HQ9.out _ (by first | exact hs.kp | exact hs.drew.kp)
                have hS := hE (by kernel_rfl)
                clear hK K hE
                try simp only [Act.put, List.setIfInBounds_toArray, List.set_cons_zero, List.set_cons_succ]
                refine wpAnyT_ready (rs := [8]) (by kernel_rfl) rfl ?_
                refine AllT.cons (o := { dst := none, op := Op.store 24 (Operand.tmp 11) (Operand.tmp 60), type := 0, pos := "types.go:322", after := #[⟨6, .data⟩, ⟨2, .data⟩, ⟨5, .chain⟩, ⟨0, .phase⟩, ⟨1, .phase⟩, ⟨2, .phase⟩, ⟨3, .textOnly .lateStores⟩, ⟨4, .textOnly .lateStores⟩, ⟨5, .textOnly .lateStoresUnsure⟩, ⟨6, .phase⟩, ⟨7, .phase⟩], guard := none }) rfl (fun K hK => ?_) ?_
                · (obtain ⟨hB6, -⟩ := hs.b6 _ rfl; have r0 := hB6.cell (i := 0) rfl; have r1 := hB6.cell (i := 1) rfl; have r2 := hB6.cell (i := 2) rfl; have r3 := hB6.cell (i := 3) rfl; have f0 := hB6.free 0; have f1 := hB6.free 1; have f2 := hB6.free 2; have f3 := hB6.free 3; go_simp)
                  refine hK.out _ _ (fun he => nof he) (fun hE => ?_)
                  clear hK K hE
                  try simp only [Act.put, List.setIfInBounds_toArray, List.set_cons_zero, List.set_cons_succ]
                  refine wpAnyT_ready (rs := [9]) (by kernel_rfl) rfl ?_
                  refine AllT.cons (o := { dst := none, op := Op.store 24 (Operand.tmp 12) (Operand.tmp 63), type := 0, pos := "types.go:322", after := #[⟨7, .data⟩, ⟨5, .data⟩, ⟨8, .chain⟩, ⟨0, .phase⟩, ⟨1, .phase⟩, ⟨2, .phase⟩, ⟨3, .phase⟩, ⟨4, .phase⟩, ⟨5, .phase⟩, ⟨6, .phase⟩, ⟨7, .phase⟩, ⟨8, .phase⟩], guard := none }) rfl (fun K hK => ?_) ?_
                  · (obtain ⟨hB6, -⟩ := hs.b6 _ rfl; obtain ⟨hB7, -⟩ := hs.b7 _ rfl; obtain ⟨-, hK6⟩ := four (show Blk _ _ _ [_, _, _, _] from hB6) (.int .i64 x.kind) (.string x.name) (.int .i64 x.var) (.slice Ax x.args.length cx); have hB7s := hB7.keeps hK6 (fun e => hs.ne _ _ rfl rfl e.symm); have q0 := hB7s.cell (i := 0) rfl; have q1 := hB7s.cell (i := 1) rfl; have q2 := hB7s.cell (i := 2) rfl; have q3 := hB7s.cell (i := 3) rfl; have h0 := hB7s.free 0; have h1 := hB7s.free 1; have h2 := hB7s.free 2; have h3 := hB7s.free 3; go_simp)
                    refine hK.out _ _ (fun he => nof he) (fun hE => ?_)
                    clear hK K hE
                    try simp only [Act.put, List.setIfInBounds_toArray, List.set_cons_zero, List.set_cons_succ]
                    refine wpAnyT_done (by kernel_rfl) ?_ _
                    refine NoPanic.normal ?_
                    go_wp2_with fail
                    go_meet
                    exact ⟨_, _, Ax, cx, Ay, cy, rfl, rfl, hs.fin rfl⟩
                  exact AllT.nil
                exact AllT.nil
              exact AllT.nil
            refine AllT.cons (o := { dst := some 12, op := Op.alloc 24, type := 0, pos := "types.go:322", after := #[], guard := none }) rfl (fun K hK => ?_) ?_
            · (go_simp; refine name_world ?_; intro wz7 hw; (first | replace hs := hs.box7 hw | replace hs := hs.drew.box7 hw | replace hs := hs.box7d hw | replace hs := hs.drew.box7d hw); (try rw [drew_size] at hs); clear hw)
              refine hK.out _ _ (fun _ => ?_) (fun hE => ?_)
              · exact HQ9.out _ (by first | exact hs.kp | exact hs.drew.kp)
              have hS := hE (by kernel_rfl)
              clear hK K hE
              try simp only [Act.put, List.setIfInBounds_toArray, List.set_cons_zero, List.set_cons_succ]
              refine wpAnyT_ready (rs := [5]) (by kernel_rfl) rfl ?_
              refine AllT.cons (o := { dst := some 63, op := Op.call { callee := Callee.value (Operand.func 9), args := #[Operand.tmp 61, Operand.tmp 62], argTypes := #[25, 24] }, type := 24, pos := "types.go:322", after := #[⟨3, .data⟩, ⟨4, .data⟩, ⟨2, .chain⟩], guard := none }) rfl (fun K hK => ?_) ?_
              · (go_simp; go_at_call 9; with_reducible refine (HA2.out _ (by first | exact hs.kp | exact hs.drew.kp)).mono ?_; rintro e wr ⟨Ay, cy, rfl, hT, hk⟩; (first | replace hs := hs.cally hT hk | replace hs := hs.drew.cally hT hk); clear hT hk; go_wp2_with fail)
                refine hK.out _ _ (fun _ => ?_) (fun hE => ?_)
                · exact HQ9.out _ (by first | exact hs.kp | exact hs.drew.kp)
                have hS := hE (by kernel_rfl)
                clear hK K hE
                try simp only [Act.put, List.setIfInBounds_toArray, List.set_cons_zero, List.set_cons_succ]
                refine wpAnyT_ready (rs := [8]) (by kernel_rfl) rfl ?_
                refine AllT.cons (o := { dst := none, op := Op.store 24 (Operand.tmp 11) (Operand.tmp 60), type := 0, pos := "types.go:322", after := #[⟨6, .data⟩, ⟨2, .data⟩, ⟨5, .chain⟩, ⟨0, .phase⟩, ⟨1, .phase⟩, ⟨2, .phase⟩, ⟨3, .textOnly .lateStores⟩, ⟨4, .textOnly .lateStores⟩, ⟨5, .textOnly .lateStoresUnsure⟩, ⟨6, .phase⟩, ⟨7, .phase⟩], guard := none }) rfl (fun K hK => ?_) ?_
                · (obtain ⟨hB6, -⟩ := hs.b6 _ rfl; have r0 := hB6.cell (i := 0) rfl; have r1 := hB6.cell (i := 1) rfl; have r2 := hB6.cell (i := 2) rfl; have r3 := hB6.cell (i := 3) rfl; have f0 := hB6.free 0; have f1 := hB6.free 1; have f2 := hB6.free 2; have f3 := hB6.free 3; go_simp)
                  refine hK.out _ _ (fun he => nof he) (fun hE => ?_)
                  clear hK K hE
                  try simp only [Act.put, List.setIfInBounds_toArray, List.set_cons_zero, List.set_cons_succ]
                  refine wpAnyT_ready (rs := [9]) (by kernel_rfl) rfl ?_
                  refine AllT.cons (o := { dst := none, op := Op.store 24 (Operand.tmp 12) (Operand.tmp 63), type := 0, pos := "types.go:322", after := #[⟨7, .data⟩, ⟨5, .data⟩, ⟨8, .chain⟩, ⟨0, .phase⟩, ⟨1, .phase⟩, ⟨2, .phase⟩, ⟨3, .phase⟩, ⟨4, .phase⟩, ⟨5, .phase⟩, ⟨6, .phase⟩, ⟨7, .phase⟩, ⟨8, .phase⟩], guard := none }) rfl (fun K hK => ?_) ?_
                  · (obtain ⟨hB6, -⟩ := hs.b6 _ rfl; obtain ⟨hB7, -⟩ := hs.b7 _ rfl; obtain ⟨-, hK6⟩ := four (show Blk _ _ _ [_, _, _, _] from hB6) (.int .i64 x.kind) (.string x.name) (.int .i64 x.var) (.slice Ax x.args.length cx); have hB7s := hB7.keeps hK6 (fun e => hs.ne _ _ rfl rfl e.symm); have q0 := hB7s.cell (i := 0) rfl; have q1 := hB7s.cell (i := 1) rfl; have q2 := hB7s.cell (i := 2) rfl; have q3 := hB7s.cell (i := 3) rfl; have h0 := hB7s.free 0; have h1 := hB7s.free 1; have h2 := hB7s.free 2; have h3 := hB7s.free 3; go_simp)
                    refine hK.out _ _ (fun he => nof he) (fun hE => ?_)
                    clear hK K hE
                    try simp only [Act.put, List.setIfInBounds_toArray, List.set_cons_zero, List.set_cons_succ]
                    refine wpAnyT_done (by kernel_rfl) ?_ _
                    refine NoPanic.normal ?_
                    go_wp2_with fail
                    go_meet
                    exact ⟨_, _, Ax, cx, Ay, cy, rfl, rfl, hs.fin rfl⟩
                  exact AllT.nil
                exact AllT.nil
              exact AllT.nil
            exact AllT.nil
          refine AllT.cons (o := { dst := some 12, op := Op.alloc 24, type := 0, pos := "types.go:322", after := #[], guard := none }) rfl (fun K hK => ?_) ?_
          · (go_simp; refine name_world ?_; intro wz7 hw; (first | replace hs := hs.box7 hw | replace hs := hs.drew.box7 hw | replace hs := hs.box7d hw | replace hs := hs.drew.box7d hw); (try rw [drew_size] at hs); clear hw)
            refine hK.out _ _ (fun _ => ?_) (fun hE => ?_)
            · exact HQ9.out _ (by first | exact hs.kp | exact hs.drew.kp)
            have hS := hE (by kernel_rfl)
            clear hK K hE
            try simp only [Act.put, List.setIfInBounds_toArray, List.set_cons_zero, List.set_cons_succ]
            refine wpAnyT_ready (rs := [2]) (by kernel_rfl) rfl ?_
            refine AllT.cons (o := { dst := some 60, op := Op.call { callee := Callee.value (Operand.func 9), args := #[Operand.tmp 58, Operand.tmp 59], argTypes := #[25, 24] }, type := 24, pos := "types.go:322", after := #[⟨0, .data⟩, ⟨1, .data⟩], guard := none }) rfl (fun K hK => ?_) ?_
            · (go_simp; go_at_call 9; with_reducible refine (HA1.out _ (by first | exact hs.kp | exact hs.drew.kp)).mono ?_; rintro e wp ⟨Ax, cx, rfl, hT, hk⟩; (first | replace hs := hs.callx hT hk | replace hs := hs.drew.callx hT hk); clear hT hk; go_wp2_with fail)
              refine hK.out _ _ (fun _ => ?_) (fun hE => ?_)
              · exact HQ9.out _ (by first | exact hs.kp | exact hs.drew.kp)
              have hS := hE (by kernel_rfl)
              clear hK K hE
              try simp only [Act.put, List.setIfInBounds_toArray, List.set_cons_zero, List.set_cons_succ]
              refine wpAnyT_ready (rs := [5]) (by kernel_rfl) rfl ?_
              refine AllT.cons (o := { dst := some 63, op := Op.call { callee := Callee.value (Operand.func 9), args := #[Operand.tmp 61, Operand.tmp 62], argTypes := #[25, 24] }, type := 24, pos := "types.go:322", after := #[⟨3, .data⟩, ⟨4, .data⟩, ⟨2, .chain⟩], guard := none }) rfl (fun K hK => ?_) ?_
              · (go_simp; go_at_call 9; with_reducible refine (HA2.out _ (by first | exact hs.kp | exact hs.drew.kp)).mono ?_; rintro e wr ⟨Ay, cy, rfl, hT, hk⟩; (first | replace hs := hs.cally hT hk | replace hs := hs.drew.cally hT hk); clear hT hk; go_wp2_with fail)
                refine hK.out _ _ (fun _ => ?_) (fun hE => ?_)
                · exact HQ9.out _ (by first | exact hs.kp | exact hs.drew.kp)
                have hS := hE (by kernel_rfl)
                clear hK K hE
                try simp only [Act.put, List.setIfInBounds_toArray, List.set_cons_zero, List.set_cons_succ]
                refine wpAnyT_ready (rs := [8]) (by kernel_rfl) rfl ?_
                refine AllT.cons (o := { dst := none, op := Op.store 24 (Operand.tmp 11) (Operand.tmp 60), type := 0, pos := "types.go:322", after := #[⟨6, .data⟩, ⟨2, .data⟩, ⟨5, .chain⟩, ⟨0, .phase⟩, ⟨1, .phase⟩, ⟨2, .phase⟩, ⟨3, .textOnly .lateStores⟩, ⟨4, .textOnly .lateStores⟩, ⟨5, .textOnly .lateStoresUnsure⟩, ⟨6, .phase⟩, ⟨7, .phase⟩], guard := none }) rfl (fun K hK => ?_) ?_
                · (obtain ⟨hB6, -⟩ := hs.b6 _ rfl; have r0 := hB6.cell (i := 0) rfl; have r1 := hB6.cell (i := 1) rfl; have r2 := hB6.cell (i := 2) rfl; have r3 := hB6.cell (i := 3) rfl; have f0 := hB6.free 0; have f1 := hB6.free 1; have f2 := hB6.free 2; have f3 := hB6.free 3; go_simp)
                  refine hK.out _ _ (fun he => nof he) (fun hE => ?_)
                  clear hK K hE
                  try simp only [Act.put, List.setIfInBounds_toArray, List.set_cons_zero, List.set_cons_succ]
                  refine wpAnyT_ready (rs := [9]) (by kernel_rfl) rfl ?_
                  refine AllT.cons (o := { dst := none, op := Op.store 24 (Operand.tmp 12) (Operand.tmp 63), type := 0, pos := "types.go:322", after := #[⟨7, .data⟩, ⟨5, .data⟩, ⟨8, .chain⟩, ⟨0, .phase⟩, ⟨1, .phase⟩, ⟨2, .phase⟩, ⟨3, .phase⟩, ⟨4, .phase⟩, ⟨5, .phase⟩, ⟨6, .phase⟩, ⟨7, .phase⟩, ⟨8, .phase⟩], guard := none }) rfl (fun K hK => ?_) ?_
                  · (obtain ⟨hB6, -⟩ := hs.b6 _ rfl; obtain ⟨hB7, -⟩ := hs.b7 _ rfl; obtain ⟨-, hK6⟩ := four (show Blk _ _ _ [_, _, _, _] from hB6) (.int .i64 x.kind) (.string x.name) (.int .i64 x.var) (.slice Ax x.args.length cx); have hB7s := hB7.keeps hK6 (fun e => hs.ne _ _ rfl rfl e.symm); have q0 := hB7s.cell (i := 0) rfl; have q1 := hB7s.cell (i := 1) rfl; have q2 := hB7s.cell (i := 2) rfl; have q3 := hB7s.cell (i := 3) rfl; have h0 := hB7s.free 0; have h1 := hB7s.free 1; have h2 := hB7s.free 2; have h3 := hB7s.free 3; go_simp)
                    refine hK.out _ _ (fun he => nof he) (fun hE => ?_)
                    clear hK K hE
                    try simp only [Act.put, List.setIfInBounds_toArray, List.set_cons_zero, List.set_cons_succ]
                    refine wpAnyT_done (by kernel_rfl) ?_ _
                    refine NoPanic.normal ?_
                    go_wp2_with fail
                    go_meet
                    exact ⟨_, _, Ax, cx, Ay, cy, rfl, rfl, hs.fin rfl⟩
                  exact AllT.nil
                exact AllT.nil
              exact AllT.nil
            exact AllT.nil
          exact AllT.nil
        refine AllT.cons (o := { dst := some 12, op := Op.alloc 24, type := 0, pos := "types.go:322", after := #[], guard := none }) rfl (fun K hK => ?_) ?_
        · (go_simp; refine name_world ?_; intro wz7 hw; (first | replace hs := hs.box7 hw | replace hs := hs.drew.box7 hw | replace hs := hs.box7d hw | replace hs := hs.drew.box7d hw); (try rw [drew_size] at hs); clear hw)
          refine hK.out _ _ (fun _ => ?_) (fun hE => ?_)
          · exact HQ9.out _ (by first | exact hs.kp | exact hs.drew.kp)
          have hS := hE (by kernel_rfl)
          clear hK K hE
          try simp only [Act.put, List.setIfInBounds_toArray, List.set_cons_zero, List.set_cons_succ]
          refine wpAnyT_ready (rs := [2, 6]) (by kernel_rfl) rfl ?_
          refine AllT.cons (o := { dst := some 60, op := Op.call { callee := Callee.value (Operand.func 9), args := #[Operand.tmp 58, Operand.tmp 59], argTypes := #[25, 24] }, type := 24, pos := "types.go:322", after := #[⟨0, .data⟩, ⟨1, .data⟩], guard := none }) rfl (fun K hK => ?_) ?_
          · (go_simp; go_at_call 9; with_reducible refine (HA1.out _ (by first | exact hs.kp | exact hs.drew.kp)).mono ?_; rintro e wp ⟨Ax, cx, rfl, hT, hk⟩; (first | replace hs := hs.callx hT hk | replace hs := hs.drew.callx hT hk); clear hT hk; go_wp2_with fail)
            refine hK.out _ _ (fun _ => ?_) (fun hE => ?_)
            · exact HQ9.out _ (by first | exact hs.kp | exact hs.drew.kp)
            have hS := hE (by kernel_rfl)
            clear hK K hE
            try simp only [Act.put, List.setIfInBounds_toArray, List.set_cons_zero, List.set_cons_succ]
            refine wpAnyT_ready (rs := [5, 6]) (by kernel_rfl) rfl ?_
            refine AllT.cons (o := { dst := some 63, op := Op.call { callee := Callee.value (Operand.func 9), args := #[Operand.tmp 61, Operand.tmp 62], argTypes := #[25, 24] }, type := 24, pos := "types.go:322", after := #[⟨3, .data⟩, ⟨4, .data⟩, ⟨2, .chain⟩], guard := none }) rfl (fun K hK => ?_) ?_
            · (go_simp; go_at_call 9; with_reducible refine (HA2.out _ (by first | exact hs.kp | exact hs.drew.kp)).mono ?_; rintro e wr ⟨Ay, cy, rfl, hT, hk⟩; (first | replace hs := hs.cally hT hk | replace hs := hs.drew.cally hT hk); clear hT hk; go_wp2_with fail)
              refine hK.out _ _ (fun _ => ?_) (fun hE => ?_)
              · exact HQ9.out _ (by first | exact hs.kp | exact hs.drew.kp)
              have hS := hE (by kernel_rfl)
              clear hK K hE
              try simp only [Act.put, List.setIfInBounds_toArray, List.set_cons_zero, List.set_cons_succ]
              refine wpAnyT_ready (rs := [6]) (by kernel_rfl) rfl ?_
              refine AllT.cons (o := { dst := some 11, op := Op.alloc 24, type := 0, pos := "types.go:322", after := #[], guard := none }) rfl (fun K hK => ?_) ?_
              · (go_simp; refine name_world ?_; intro wz6 hw; (first | replace hs := hs.box6 hw | replace hs := hs.drew.box6 hw | replace hs := hs.box6d hw | replace hs := hs.drew.box6d hw); (try rw [drew_size] at hs); clear hw)
                refine hK.out _ _ (fun _ => ?_) (fun hE => ?_)
                · exact HQ9.out _ (by first | exact hs.kp | exact hs.drew.kp)
                have hS := hE (by kernel_rfl)
                clear hK K hE
                try simp only [Act.put, List.setIfInBounds_toArray, List.set_cons_zero, List.set_cons_succ]
                refine wpAnyT_ready (rs := [8]) (by kernel_rfl) rfl ?_
                refine AllT.cons (o := { dst := none, op := Op.store 24 (Operand.tmp 11) (Operand.tmp 60), type := 0, pos := "types.go:322", after := #[⟨6, .data⟩, ⟨2, .data⟩, ⟨5, .chain⟩, ⟨0, .phase⟩, ⟨1, .phase⟩, ⟨2, .phase⟩, ⟨3, .textOnly .lateStores⟩, ⟨4, .textOnly .lateStores⟩, ⟨5, .textOnly .lateStoresUnsure⟩, ⟨6, .phase⟩, ⟨7, .phase⟩], guard := none }) rfl (fun K hK => ?_) ?_
                · (obtain ⟨hB6, -⟩ := hs.b6 _ rfl; have r0 := hB6.cell (i := 0) rfl; have r1 := hB6.cell (i := 1) rfl; have r2 := hB6.cell (i := 2) rfl; have r3 := hB6.cell (i := 3) rfl; have f0 := hB6.free 0; have f1 := hB6.free 1; have f2 := hB6.free 2; have f3 := hB6.free 3; go_simp)
                  refine hK.out _ _ (fun he => nof he) (fun hE => ?_)
                  clear hK K hE
                  try simp only [Act.put, List.setIfInBounds_toArray, List.set_cons_zero, List.set_cons_succ]
                  refine wpAnyT_ready (rs := [9]) (by kernel_rfl) rfl ?_
                  refine AllT.cons (o := { dst := none, op := Op.store 24 (Operand.tmp 12) (Operand.tmp 63), type := 0, pos := "types.go:322", after := #[⟨7, .data⟩, ⟨5, .data⟩, ⟨8, .chain⟩, ⟨0, .phase⟩, ⟨1, .phase⟩, ⟨2, .phase⟩, ⟨3, .phase⟩, ⟨4, .phase⟩, ⟨5, .phase⟩, ⟨6, .phase⟩, ⟨7, .phase⟩, ⟨8, .phase⟩], guard := none }) rfl (fun K hK => ?_) ?_
                  · (obtain ⟨hB6, -⟩ := hs.b6 _ rfl; obtain ⟨hB7, -⟩ := hs.b7 _ rfl; obtain ⟨-, hK6⟩ := four (show Blk _ _ _ [_, _, _, _] from hB6) (.int .i64 x.kind) (.string x.name) (.int .i64 x.var) (.slice Ax x.args.length cx); have hB7s := hB7.keeps hK6 (fun e => hs.ne _ _ rfl rfl e.symm); have q0 := hB7s.cell (i := 0) rfl; have q1 := hB7s.cell (i := 1) rfl; have q2 := hB7s.cell (i := 2) rfl; have q3 := hB7s.cell (i := 3) rfl; have h0 := hB7s.free 0; have h1 := hB7s.free 1; have h2 := hB7s.free 2; have h3 := hB7s.free 3; go_simp)
                    refine hK.out _ _ (fun he => nof he) (fun hE => ?_)
                    clear hK K hE
                    try simp only [Act.put, List.setIfInBounds_toArray, List.set_cons_zero, List.set_cons_succ]
                    refine wpAnyT_done (by kernel_rfl) ?_ _
                    refine NoPanic.normal ?_
                    go_wp2_with fail
                    go_meet
                    exact ⟨_, _, Ax, cx, Ay, cy, rfl, rfl, hs.fin rfl⟩
                  exact AllT.nil
                exact AllT.nil
              exact AllT.nil
            refine AllT.cons (o := { dst := some 11, op := Op.alloc 24, type := 0, pos := "types.go:322", after := #[], guard := none }) rfl (fun K hK => ?_) ?_
            · (go_simp; refine name_world ?_; intro wz6 hw; (first | replace hs := hs.box6 hw | replace hs := hs.drew.box6 hw | replace hs := hs.box6d hw | replace hs := hs.drew.box6d hw); (try rw [drew_size] at hs); clear hw)
              refine hK.out _ _ (fun _ => ?_) (fun hE => ?_)
              · exact HQ9.out _ (by first | exact hs.kp | exact hs.drew.kp)
              have hS := hE (by kernel_rfl)
              clear hK K hE
              try simp only [Act.put, List.setIfInBounds_toArray, List.set_cons_zero, List.set_cons_succ]
              refine wpAnyT_ready (rs := [5]) (by kernel_rfl) rfl ?_
              refine AllT.cons (o := { dst := some 63, op := Op.call { callee := Callee.value (Operand.func 9), args := #[Operand.tmp 61, Operand.tmp 62], argTypes := #[25, 24] }, type := 24, pos := "types.go:322", after := #[⟨3, .data⟩, ⟨4, .data⟩, ⟨2, .chain⟩], guard := none }) rfl (fun K hK => ?_) ?_
              · (go_simp; go_at_call 9; with_reducible refine (HA2.out _ (by first | exact hs.kp | exact hs.drew.kp)).mono ?_; rintro e wr ⟨Ay, cy, rfl, hT, hk⟩; (first | replace hs := hs.cally hT hk | replace hs := hs.drew.cally hT hk); clear hT hk; go_wp2_with fail)
                refine hK.out _ _ (fun _ => ?_) (fun hE => ?_)
                · exact HQ9.out _ (by first | exact hs.kp | exact hs.drew.kp)
                have hS := hE (by kernel_rfl)
                clear hK K hE
                try simp only [Act.put, List.setIfInBounds_toArray, List.set_cons_zero, List.set_cons_succ]
                refine wpAnyT_ready (rs := [8]) (by kernel_rfl) rfl ?_
                refine AllT.cons (o := { dst := none, op := Op.store 24 (Operand.tmp 11) (Operand.tmp 60), type := 0, pos := "types.go:322", after := #[⟨6, .data⟩, ⟨2, .data⟩, ⟨5, .chain⟩, ⟨0, .phase⟩, ⟨1, .phase⟩, ⟨2, .phase⟩, ⟨3, .textOnly .lateStores⟩, ⟨4, .textOnly .lateStores⟩, ⟨5, .textOnly .lateStoresUnsure⟩, ⟨6, .phase⟩, ⟨7, .phase⟩], guard := none }) rfl (fun K hK => ?_) ?_
                · (obtain ⟨hB6, -⟩ := hs.b6 _ rfl; have r0 := hB6.cell (i := 0) rfl; have r1 := hB6.cell (i := 1) rfl; have r2 := hB6.cell (i := 2) rfl; have r3 := hB6.cell (i := 3) rfl; have f0 := hB6.free 0; have f1 := hB6.free 1; have f2 := hB6.free 2; have f3 := hB6.free 3; go_simp)
                  refine hK.out _ _ (fun he => nof he) (fun hE => ?_)
                  clear hK K hE
                  try simp only [Act.put, List.setIfInBounds_toArray, List.set_cons_zero, List.set_cons_succ]
                  refine wpAnyT_ready (rs := [9]) (by kernel_rfl) rfl ?_
                  refine AllT.cons (o := { dst := none, op := Op.store 24 (Operand.tmp 12) (Operand.tmp 63), type := 0, pos := "types.go:322", after := #[⟨7, .data⟩, ⟨5, .data⟩, ⟨8, .chain⟩, ⟨0, .phase⟩, ⟨1, .phase⟩, ⟨2, .phase⟩, ⟨3, .phase⟩, ⟨4, .phase⟩, ⟨5, .phase⟩, ⟨6, .phase⟩, ⟨7, .phase⟩, ⟨8, .phase⟩], guard := none }) rfl (fun K hK => ?_) ?_
                  · (obtain ⟨hB6, -⟩ := hs.b6 _ rfl; obtain ⟨hB7, -⟩ := hs.b7 _ rfl; obtain ⟨-, hK6⟩ := four (show Blk _ _ _ [_, _, _, _] from hB6) (.int .i64 x.kind) (.string x.name) (.int .i64 x.var) (.slice Ax x.args.length cx); have hB7s := hB7.keeps hK6 (fun e => hs.ne _ _ rfl rfl e.symm); have q0 := hB7s.cell (i := 0) rfl; have q1 := hB7s.cell (i := 1) rfl; have q2 := hB7s.cell (i := 2) rfl; have q3 := hB7s.cell (i := 3) rfl; have h0 := hB7s.free 0; have h1 := hB7s.free 1; have h2 := hB7s.free 2; have h3 := hB7s.free 3; go_simp)
                    refine hK.out _ _ (fun he => nof he) (fun hE => ?_)
                    clear hK K hE
                    try simp only [Act.put, List.setIfInBounds_toArray, List.set_cons_zero, List.set_cons_succ]
                    refine wpAnyT_done (by kernel_rfl) ?_ _
                    refine NoPanic.normal ?_
                    go_wp2_with fail
                    go_meet
                    exact ⟨_, _, Ax, cx, Ay, cy, rfl, rfl, hs.fin rfl⟩
                  exact AllT.nil
                exact AllT.nil
              exact AllT.nil
            exact AllT.nil
          refine AllT.cons (o := { dst := some 11, op := Op.alloc 24, type := 0, pos := "types.go:322", after := #[], guard := none }) rfl (fun K hK => ?_) ?_
          · (go_simp; refine name_world ?_; intro wz6 hw; (first | replace hs := hs.box6 hw | replace hs := hs.drew.box6 hw | replace hs := hs.box6d hw | replace hs := hs.drew.box6d hw); (try rw [drew_size] at hs); clear hw)
            refine hK.out _ _ (fun _ => ?_) (fun hE => ?_)
            · exact HQ9.out _ (by first | exact hs.kp | exact hs.drew.kp)
            have hS := hE (by kernel_rfl)
            clear hK K hE
            try simp only [Act.put, List.setIfInBounds_toArray, List.set_cons_zero, List.set_cons_succ]
            refine wpAnyT_ready (rs := [2]) (by kernel_rfl) rfl ?_
            refine AllT.cons (o := { dst := some 60, op := Op.call { callee := Callee.value (Operand.func 9), args := #[Operand.tmp 58, Operand.tmp 59], argTypes := #[25, 24] }, type := 24, pos := "types.go:322", after := #[⟨0, .data⟩, ⟨1, .data⟩], guard := none }) rfl (fun K hK => ?_) ?_
            · (go_simp; go_at_call 9; with_reducible refine (HA1.out _ (by first | exact hs.kp | exact hs.drew.kp)).mono ?_; rintro e wp ⟨Ax, cx, rfl, hT, hk⟩; (first | replace hs := hs.callx hT hk | replace hs := hs.drew.callx hT hk); clear hT hk; go_wp2_with fail)
              refine hK.out _ _ (fun _ => ?_) (fun hE => ?_)
              · exact HQ9.out _ (by first | exact hs.kp | exact hs.drew.kp)
              have hS := hE (by kernel_rfl)
              clear hK K hE
              try simp only [Act.put, List.setIfInBounds_toArray, List.set_cons_zero, List.set_cons_succ]
              refine wpAnyT_ready (rs := [5]) (by kernel_rfl) rfl ?_
              refine AllT.cons (o := { dst := some 63, op := Op.call { callee := Callee.value (Operand.func 9), args := #[Operand.tmp 61, Operand.tmp 62], argTypes := #[25, 24] }, type := 24, pos := "types.go:322", after := #[⟨3, .data⟩, ⟨4, .data⟩, ⟨2, .chain⟩], guard := none }) rfl (fun K hK => ?_) ?_
              · (go_simp; go_at_call 9; with_reducible refine (HA2.out _ (by first | exact hs.kp | exact hs.drew.kp)).mono ?_; rintro e wr ⟨Ay, cy, rfl, hT, hk⟩; (first | replace hs := hs.cally hT hk | replace hs := hs.drew.cally hT hk); clear hT hk; go_wp2_with fail)
                refine hK.out _ _ (fun _ => ?_) (fun hE => ?_)
                · exact HQ9.out _ (by first | exact hs.kp | exact hs.drew.kp)
                have hS := hE (by kernel_rfl)
                clear hK K hE
                try simp only [Act.put, List.setIfInBounds_toArray, List.set_cons_zero, List.set_cons_succ]
                refine wpAnyT_ready (rs := [8]) (by kernel_rfl) rfl ?_
                refine AllT.cons (o := { dst := none, op := Op.store 24 (Operand.tmp 11) (Operand.tmp 60), type := 0, pos := "types.go:322", after := #[⟨6, .data⟩, ⟨2, .data⟩, ⟨5, .chain⟩, ⟨0, .phase⟩, ⟨1, .phase⟩, ⟨2, .phase⟩, ⟨3, .textOnly .lateStores⟩, ⟨4, .textOnly .lateStores⟩, ⟨5, .textOnly .lateStoresUnsure⟩, ⟨6, .phase⟩, ⟨7, .phase⟩], guard := none }) rfl (fun K hK => ?_) ?_
                · (obtain ⟨hB6, -⟩ := hs.b6 _ rfl; have r0 := hB6.cell (i := 0) rfl; have r1 := hB6.cell (i := 1) rfl; have r2 := hB6.cell (i := 2) rfl; have r3 := hB6.cell (i := 3) rfl; have f0 := hB6.free 0; have f1 := hB6.free 1; have f2 := hB6.free 2; have f3 := hB6.free 3; go_simp)
                  refine hK.out _ _ (fun he => nof he) (fun hE => ?_)
                  clear hK K hE
                  try simp only [Act.put, List.setIfInBounds_toArray, List.set_cons_zero, List.set_cons_succ]
                  refine wpAnyT_ready (rs := [9]) (by kernel_rfl) rfl ?_
                  refine AllT.cons (o := { dst := none, op := Op.store 24 (Operand.tmp 12) (Operand.tmp 63), type := 0, pos := "types.go:322", after := #[⟨7, .data⟩, ⟨5, .data⟩, ⟨8, .chain⟩, ⟨0, .phase⟩, ⟨1, .phase⟩, ⟨2, .phase⟩, ⟨3, .phase⟩, ⟨4, .phase⟩, ⟨5, .phase⟩, ⟨6, .phase⟩, ⟨7, .phase⟩, ⟨8, .phase⟩], guard := none }) rfl (fun K hK => ?_) ?_
                  · (obtain ⟨hB6, -⟩ := hs.b6 _ rfl; obtain ⟨hB7, -⟩ := hs.b7 _ rfl; obtain ⟨-, hK6⟩ := four (show Blk _ _ _ [_, _, _, _] from hB6) (.int .i64 x.kind) (.string x.name) (.int .i64 x.var) (.slice Ax x.args.length cx); have hB7s := hB7.keeps hK6 (fun e => hs.ne _ _ rfl rfl e.symm); have q0 := hB7s.cell (i := 0) rfl; have q1 := hB7s.cell (i := 1) rfl; have q2 := hB7s.cell (i := 2) rfl; have q3 := hB7s.cell (i := 3) rfl; have h0 := hB7s.free 0; have h1 := hB7s.free 1; have h2 := hB7s.free 2; have h3 := hB7s.free 3; go_simp)
                    refine hK.out _ _ (fun he => nof he) (fun hE => ?_)
                    clear hK K hE
                    try simp only [Act.put, List.setIfInBounds_toArray, List.set_cons_zero, List.set_cons_succ]
                    refine wpAnyT_done (by kernel_rfl) ?_ _
                    refine NoPanic.normal ?_
                    go_wp2_with fail
                    go_meet
                    exact ⟨_, _, Ax, cx, Ay, cy, rfl, rfl, hs.fin rfl⟩
                  exact AllT.nil
                exact AllT.nil
              exact AllT.nil
            exact AllT.nil
          exact AllT.nil
        exact AllT.nil
      refine AllT.cons (o := { dst := some 11, op := Op.alloc 24, type := 0, pos := "types.go:322", after := #[], guard := none }) rfl (fun K hK => ?_) ?_
      · (go_simp; refine name_world ?_; intro wz6 hw; (first | replace hs := hs.box6 hw | replace hs := hs.drew.box6 hw | replace hs := hs.box6d hw | replace hs := hs.drew.box6d hw); (try rw [drew_size] at hs); clear hw)
        refine hK.out _ _ (fun _ => ?_) (fun hE => ?_)
        · exact HQ9.out _ (by first | exact hs.kp | exact hs.drew.kp)
        have hS := hE (by kernel_rfl)
        clear hK K hE
        try simp only [Act.put, List.setIfInBounds_toArray, List.set_cons_zero, List.set_cons_succ]
        refine wpAnyT_ready (rs := [2, 4, 7]) (by kernel_rfl) rfl ?_
        refine AllT.cons (o := { dst := some 60, op := Op.call { callee := Callee.value (Operand.func 9), args := #[Operand.tmp 58, Operand.tmp 59], argTypes := #[25, 24] }, type := 24, pos := "types.go:322", after := #[⟨0, .data⟩, ⟨1, .data⟩], guard := none }) rfl (fun K hK => ?_) ?_
        · (go_simp; go_at_call 9; with_reducible refine (HA1.out _ (by first | exact hs.kp | exact hs.drew.kp)).mono ?_; rintro e wp ⟨Ax, cx, rfl, hT, hk⟩; (first | replace hs := hs.callx hT hk | replace hs := hs.drew.callx hT hk); clear hT hk; go_wp2_with fail)
          refine hK.out _ _ (fun _ => ?_) (fun hE => ?_)
          · exact HQ9.out _ (by first | exact hs.kp | exact hs.drew.kp)
          have hS := hE (by kernel_rfl)
          clear hK K hE
          try simp only [Act.put, List.setIfInBounds_toArray, List.set_cons_zero, List.set_cons_succ]
          refine wpAnyT_ready (rs := [4, 7]) (by kernel_rfl) rfl ?_
          refine AllT.cons (o := { dst := some 62, op := Op.load 24 (Operand.tmp 3), type := 24, pos := "types.go:322", after := #[], guard := none }) rfl (fun K hK => ?_) ?_
          · go_simp
            refine hK.out _ _ (fun _ => ?_) (fun hE => ?_)
            · exact HQ9.out _ (by first | exact hs.kp | exact hs.drew.kp)
            have hS := hE (by kernel_rfl)
            clear hK K hE
            try simp only [Act.put, List.setIfInBounds_toArray, List.set_cons_zero, List.set_cons_succ]
            refine wpAnyT_ready (rs := [5, 7]) (by kernel_rfl) rfl ?_
            refine AllT.cons (o := { dst := some 63, op := Op.call { callee := Callee.value (Operand.func 9), args := #[Operand.tmp 61, Operand.tmp 62], argTypes := #[25, 24] }, type := 24, pos := "types.go:322", after := #[⟨3, .data⟩, ⟨4, .data⟩, ⟨2, .chain⟩], guard := none }) rfl (fun K hK => ?_) ?_
            · (go_simp; go_at_call 9; with_reducible refine (HA2.out _ (by first | exact hs.kp | exact hs.drew.kp)).mono ?_; rintro e wr ⟨Ay, cy, rfl, hT, hk⟩; (first | replace hs := hs.cally hT hk | replace hs := hs.drew.cally hT hk); clear hT hk; go_wp2_with fail)
              refine hK.out _ _ (fun _ => ?_) (fun hE => ?_)
              · exact HQ9.out _ (by first | exact hs.kp | exact hs.drew.kp)
              have hS := hE (by kernel_rfl)
              clear hK K hE
              try simp only [Act.put, List.setIfInBounds_toArray, List.set_cons_zero, List.set_cons_succ]
              refine wpAnyT_ready (rs := [7]) (by kernel_rfl) rfl ?_
              refine AllT.cons (o := { dst := some 12, op := Op.alloc 24, type := 0, pos := "types.go:322", after := #[], guard := none }) rfl (fun K hK => ?_) ?_
              · (go_simp; refine name_world ?_; intro wz7 hw; (first | replace hs := hs.box7 hw | replace hs := hs.drew.box7 hw | replace hs := hs.box7d hw | replace hs := hs.drew.box7d hw); (try rw [drew_size] at hs); clear hw)
                refine hK.out _ _ (fun _ => ?_) (fun hE => ?_)
                · exact HQ9.out _ (by first | exact hs.kp | exact hs.drew.kp)
                have hS := hE (by kernel_rfl)
                clear hK K hE
                try simp only [Act.put, List.setIfInBounds_toArray, List.set_cons_zero, List.set_cons_succ]
                refine wpAnyT_ready (rs := [8]) (by kernel_rfl) rfl ?_
                refine AllT.cons (o := { dst := none, op := Op.store 24 (Operand.tmp 11) (Operand.tmp 60), type := 0, pos := "types.go:322", after := #[⟨6, .data⟩, ⟨2, .data⟩, ⟨5, .chain⟩, ⟨0, .phase⟩, ⟨1, .phase⟩, ⟨2, .phase⟩, ⟨3, .textOnly .lateStores⟩, ⟨4, .textOnly .lateStores⟩, ⟨5, .textOnly .lateStoresUnsure⟩, ⟨6, .phase⟩, ⟨7, .phase⟩], guard := none }) rfl (fun K hK => ?_) ?_
                · (obtain ⟨hB6, -⟩ := hs.b6 _ rfl; have r0 := hB6.cell (i := 0) rfl; have r1 := hB6.cell (i := 1) rfl; have r2 := hB6.cell (i := 2) rfl; have r3 := hB6.cell (i := 3) rfl; have f0 := hB6.free 0; have f1 := hB6.free 1; have f2 := hB6.free 2; have f3 := hB6.free 3; go_simp)
                  refine hK.out _ _ (fun he => nof he) (fun hE => ?_)
                  clear hK K hE
                  try simp only [Act.put, List.setIfInBounds_toArray, List.set_cons_zero, List.set_cons_succ]
                  refine wpAnyT_ready (rs := [9]) (by kernel_rfl) rfl ?_
                  refine AllT.cons (o := { dst := none, op := Op.store 24 (Operand.tmp 12) (Operand.tmp 63), type := 0, pos := "types.go:322", after := #[⟨7, .data⟩, ⟨5, .data⟩, ⟨8, .chain⟩, ⟨0, .phase⟩, ⟨1, .phase⟩, ⟨2, .phase⟩, ⟨3, .phase⟩, ⟨4, .phase⟩, ⟨5, .phase⟩, ⟨6, .phase⟩, ⟨7, .phase⟩, ⟨8, .phase⟩], guard := none }) rfl (fun K hK => ?_) ?_
                  · (obtain ⟨hB6, -⟩ := hs.b6 _ rfl; obtain ⟨hB7, -⟩ := hs.b7 _ rfl; obtain ⟨-, hK6⟩ := four (show Blk _ _ _ [_, _, _, _] from hB6) (.int .i64 x.kind) (.string x.name) (.int .i64 x.var) (.slice Ax x.args.length cx); have hB7s := hB7.keeps hK6 (fun e => hs.ne _ _ rfl rfl e.symm); have q0 := hB7s.cell (i := 0) rfl; have q1 := hB7s.cell (i := 1) rfl; have q2 := hB7s.cell (i := 2) rfl; have q3 := hB7s.cell (i := 3) rfl; have h0 := hB7s.free 0; have h1 := hB7s.free 1; have h2 := hB7s.free 2; have h3 := hB7s.free 3; go_simp)
                    refine hK.out _ _ (fun he => nof he) (fun hE => ?_)
                    clear hK K hE
                    try simp only [Act.put, List.setIfInBounds_toArray, List.set_cons_zero, List.set_cons_succ]
                    refine wpAnyT_done (by kernel_rfl) ?_ _
                    refine NoPanic.normal ?_
                    go_wp2_with fail
                    go_meet
                    exact ⟨_, _, Ax, cx, Ay, cy, rfl, rfl, hs.fin rfl⟩
                  exact AllT.nil
                exact AllT.nil
              exact AllT.nil
            refine AllT.cons (o := { dst := some 12, op := Op.alloc 24, type := 0, pos := "types.go:322", after := #[], guard := none }) rfl (fun K hK => ?_) ?_
            · (go_simp; refine name_world ?_; intro wz7 hw; (first | replace hs := hs.box7 hw | replace hs := hs.drew.box7 hw | replace hs := hs.box7d hw | replace hs := hs.drew.box7d hw); (try rw [drew_size] at hs); clear hw)
              refine hK.out _ _ (fun _ => ?_) (fun hE => ?_)
              · exact HQ9.out _ (by first | exact hs.kp | exact hs.drew.kp)
              have hS := hE (by kernel_rfl)
              clear hK K hE
              try simp only [Act.put, List.setIfInBounds_toArray, List.set_cons_zero, List.set_cons_succ]
              refine wpAnyT_ready (rs := [5]) (by kernel_rfl) rfl ?_
              refine AllT.cons (o := { dst := some 63, op := Op.call { callee := Callee.value (Operand.func 9), args := #[Operand.tmp 61, Operand.tmp 62], argTypes := #[25, 24] }, type := 24, pos := "types.go:322", after := #[⟨3, .data⟩, ⟨4, .data⟩, ⟨2, .chain⟩], guard := none }) rfl (fun K hK => ?_) ?_
              · (go_simp; go_at_call 9; with_reducible refine (HA2.out _ (by first | exact hs.kp | exact hs.drew.kp)).mono ?_; rintro e wr ⟨Ay, cy, rfl, hT, hk⟩; (first | replace hs := hs.cally hT hk | replace hs := hs.drew.cally hT hk); clear hT hk; go_wp2_with fail)
                refine hK.out _ _ (fun _ => ?_) (fun hE => ?_)
                · exact HQ9.out _ (by first | exact hs.kp | exact hs.drew.kp)
                have hS := hE (by kernel_rfl)
                clear hK K hE
                try simp only [Act.put, List.setIfInBounds_toArray, List.set_cons_zero, List.set_cons_succ]
                refine wpAnyT_ready (rs := [8]) (by kernel_rfl) rfl ?_
                refine AllT.cons (o := { dst := none, op := Op.store 24 (Operand.tmp 11) (Operand.tmp 60), type := 0, pos := "types.go:322", after := #[⟨6, .data⟩, ⟨2, .data⟩, ⟨5, .chain⟩, ⟨0, .phase⟩, ⟨1, .phase⟩, ⟨2, .phase⟩, ⟨3, .textOnly .lateStores⟩, ⟨4, .textOnly .lateStores⟩, ⟨5, .textOnly .lateStoresUnsure⟩, ⟨6, .phase⟩, ⟨7, .phase⟩], guard := none }) rfl (fun K hK => ?_) ?_
                · (obtain ⟨hB6, -⟩ := hs.b6 _ rfl; have r0 := hB6.cell (i := 0) rfl; have r1 := hB6.cell (i := 1) rfl; have r2 := hB6.cell (i := 2) rfl; have r3 := hB6.cell (i := 3) rfl; have f0 := hB6.free 0; have f1 := hB6.free 1; have f2 := hB6.free 2; have f3 := hB6.free 3; go_simp)
                  refine hK.out _ _ (fun he => nof he) (fun hE => ?_)
                  clear hK K hE
                  try simp only [Act.put, List.setIfInBounds_toArray, List.set_cons_zero, List.set_cons_succ]
                  refine wpAnyT_ready (rs := [9]) (by kernel_rfl) rfl ?_
                  refine AllT.cons (o := { dst := none, op := Op.store 24 (Operand.tmp 12) (Operand.tmp 63), type := 0, pos := "types.go:322", after := #[⟨7, .data⟩, ⟨5, .data⟩, ⟨8, .chain⟩, ⟨0, .phase⟩, ⟨1, .phase⟩, ⟨2, .phase⟩, ⟨3, .phase⟩, ⟨4, .phase⟩, ⟨5, .phase⟩, ⟨6, .phase⟩, ⟨7, .phase⟩, ⟨8, .phase⟩], guard := none }) rfl (fun K hK => ?_) ?_
                  · (obtain ⟨hB6, -⟩ := hs.b6 _ rfl; obtain ⟨hB7, -⟩ := hs.b7 _ rfl; obtain ⟨-, hK6⟩ := four (show Blk _ _ _ [_, _, _, _] from hB6) (.int .i64 x.kind) (.string x.name) (.int .i64 x.var) (.slice Ax x.args.length cx); have hB7s := hB7.keeps hK6 (fun e => hs.ne _ _ rfl rfl e.symm); have q0 := hB7s.cell (i := 0) rfl; have q1 := hB7s.cell (i := 1) rfl; have q2 := hB7s.cell (i := 2) rfl; have q3 := hB7s.cell (i := 3) rfl; have h0 := hB7s.free 0; have h1 := hB7s.free 1; have h2 := hB7s.free 2; have h3 := hB7s.free 3; go_simp)
                    refine hK.out _ _ (fun he => nof he) (fun hE => ?_)
                    clear hK K hE
                    try simp only [Act.put, List.setIfInBounds_toArray, List.set_cons_zero, List.set_cons_succ]
                    refine wpAnyT_done (by kernel_rfl) ?_ _
                    refine NoPanic.normal ?_
                    go_wp2_with fail
                    go_meet
                    exact ⟨_, _, Ax, cx, Ay, cy, rfl, rfl, hs.fin rfl⟩
                  exact AllT.nil
                exact AllT.nil
              exact AllT.nil
            exact AllT.nil
          refine AllT.cons (o := { dst := some 12, op := Op.alloc 24, type := 0, pos := "types.go:322", after := #[], guard := none }) rfl (fun K hK => ?_) ?_
          · (go_simp; refine name_world ?_; intro wz7 hw; (first | replace hs := hs.box7 hw | replace hs := hs.drew.box7 hw | replace hs := hs.box7d hw | replace hs := hs.drew.box7d hw); (try rw [drew_size] at hs); clear hw)
            refine hK.out _ _ (fun _ => ?_) (fun hE => ?_)
            · exact HQ9.out _ (by first | exact hs.kp | exact hs.drew.kp)
            have hS := hE (by kernel_rfl)
            clear hK K hE
            try simp only [Act.put, List.setIfInBounds_toArray, List.set_cons_zero, List.set_cons_succ]
            refine wpAnyT_ready (rs := [4]) (by kernel_rfl) rfl ?_
            refine AllT.cons (o := { dst := some 62, op := Op.load 24 (Operand.tmp 3), type := 24, pos := "types.go:322", after := #[], guard := none }) rfl (fun K hK => ?_) ?_
            · go_simp
              refine hK.out _ _ (fun _ => ?_) (fun hE => ?_)
              · exact HQ9.out _ (by first | exact hs.kp | exact hs.drew.kp)
              have hS := hE (by kernel_rfl)
              clear hK K hE
              try simp only [Act.put, List.setIfInBounds_toArray, List.set_cons_zero, List.set_cons_succ]
              refine wpAnyT_ready (rs := [5]) (by kernel_rfl) rfl ?_
              refine AllT.cons (o := { dst := some 63, op := Op.call { callee := Callee.value (Operand.func 9), args := #[Operand.tmp 61, Operand.tmp 62], argTypes := #[25, 24] }, type := 24, pos := "types.go:322", after := #[⟨3, .data⟩, ⟨4, .data⟩, ⟨2, .chain⟩], guard := none }) rfl (fun K hK => ?_) ?_
              · (go_simp; go_at_call 9; with_reducible refine (HA2.out _ (by first | exact hs.kp | exact hs.drew.kp)).mono ?_; rintro e wr ⟨Ay, cy, rfl, hT, hk⟩; (first | replace hs := hs.cally hT hk | replace hs := hs.drew.cally hT hk); clear hT hk; go_wp2_with fail)
                refine hK.out _ _ (fun _ => ?_) (fun hE => ?_)
                · exact HQ9.out _ (by first | exact hs.kp | exact hs.drew.kp)
                have hS := hE (by kernel_rfl)
                clear hK K hE
                try simp only [Act.put, List.setIfInBounds_toArray, List.set_cons_zero, List.set_cons_succ]
                refine wpAnyT_ready (rs := [8]) (by kernel_rfl) rfl ?_
                refine AllT.cons (o := { dst := none, op := Op.store 24 (Operand.tmp 11) (Operand.tmp 60), type := 0, pos := "types.go:322", after := #[⟨6, .data⟩, ⟨2, .data⟩, ⟨5, .chain⟩, ⟨0, .phase⟩, ⟨1, .phase⟩, ⟨2, .phase⟩, ⟨3, .textOnly .lateStores⟩, ⟨4, .textOnly .lateStores⟩, ⟨5, .textOnly .lateStoresUnsure⟩, ⟨6, .phase⟩, ⟨7, .phase⟩], guard := none }) rfl (fun K hK => ?_) ?_
                · (obtain ⟨hB6, -⟩ := hs.b6 _ rfl; have r0 := hB6.cell (i := 0) rfl; have r1 := hB6.cell (i := 1) rfl; have r2 := hB6.cell (i := 2) rfl; have r3 := hB6.cell (i := 3) rfl; have f0 := hB6.free 0; have f1 := hB6.free 1; have f2 := hB6.free 2; have f3 := hB6.free 3; go_simp)
                  refine hK.out _ _ (fun he => nof he) (fun hE => ?_)
                  clear hK K hE
                  try simp only [Act.put, List.setIfInBounds_toArray, List.set_cons_zero, List.set_cons_succ]
                  refine wpAnyT_ready (rs := [9]) (by kernel_rfl) rfl ?_
                  refine AllT.cons (o := { dst := none, op := Op.store 24 (Operand.tmp 12) (Operand.tmp 63), type := 0, pos := "types.go:322", after := #[⟨7, .data⟩, ⟨5, .data⟩, ⟨8, .chain⟩, ⟨0, .phase⟩, ⟨1, .phase⟩, ⟨2, .phase⟩, ⟨3, .phase⟩, ⟨4, .phase⟩, ⟨5, .phase⟩, ⟨6, .phase⟩, ⟨7, .phase⟩, ⟨8, .phase⟩], guard := none }) rfl (fun K hK => ?_) ?_
                  · (obtain ⟨hB6, -⟩ := hs.b6 _ rfl; obtain ⟨hB7, -⟩ := hs.b7 _ rfl; obtain ⟨-, hK6⟩ := four (show Blk _ _ _ [_, _, _, _] from hB6) (.int .i64 x.kind) (.string x.name) (.int .i64 x.var) (.slice Ax x.args.length cx); have hB7s := hB7.keeps hK6 (fun e => hs.ne _ _ rfl rfl e.symm); have q0 := hB7s.cell (i := 0) rfl; have q1 := hB7s.cell (i := 1) rfl; have q2 := hB7s.cell (i := 2) rfl; have q3 := hB7s.cell (i := 3) rfl; have h0 := hB7s.free 0; have h1 := hB7s.free 1; have h2 := hB7s.free 2; have h3 := hB7s.free 3; go_simp)
                    refine hK.out _ _ (fun he => nof he) (fun hE => ?_)
                    clear hK K hE
                    try simp only [Act.put, List.setIfInBounds_toArray, List.set_cons_zero, List.set_cons_succ]
                    refine wpAnyT_done (by kernel_rfl) ?_ _
                    refine NoPanic.normal ?_
                    go_wp2_with fail
                    go_meet
                    exact ⟨_, _, Ax, cx, Ay, cy, rfl, rfl, hs.fin rfl⟩
                  exact AllT.nil
                exact AllT.nil
              exact AllT.nil
            exact AllT.nil
          exact AllT.nil
        refine AllT.cons (o := { dst := some 62, op := Op.load 24 (Operand.tmp 3), type := 24, pos := "types.go:322", after := #[], guard := none }) rfl (fun K hK => ?_) ?_
        · go_simp
          refine hK.out _ _ (fun _ => ?_) (fun hE => ?_)
          · exact HQ9.out _ (by first | exact hs.kp | exact hs.drew.kp)
          have hS := hE (by kernel_rfl)
          clear hK K hE
          try simp only [Act.put, List.setIfInBounds_toArray, List.set_cons_zero, List.set_cons_succ]
          refine wpAnyT_ready (rs := [2, 7]) (by kernel_rfl) rfl ?_
          refine AllT.cons (o := { dst := some 60, op := Op.call { callee := Callee.value (Operand.func 9), args := #[Operand.tmp 58, Operand.tmp 59], argTypes := #[25, 24] }, type := 24, pos := "types.go:322", after := #[⟨0, .data⟩, ⟨1, .data⟩], guard := none }) rfl (fun K hK => ?_) ?_
          · (go_simp; go_at_call 9; with_reducible refine (HA1.out _ (by first | exact hs.kp | exact hs.drew.kp)).mono ?_; rintro e wp ⟨Ax, cx, rfl, hT, hk⟩; (first | replace hs := hs.callx hT hk | replace hs := hs.drew.callx hT hk); clear hT hk; go_wp2_with fail)
            refine hK.out _ _ (fun _ => ?_) (fun hE => ?_)
            · exact HQ9.out _ (by first | exact hs.kp | exact hs.drew.kp)
            have hS := hE (by kernel_rfl)
            clear hK K hE
            try simp only [Act.put, List.setIfInBounds_toArray, List.set_cons_zero, List.set_cons_succ]
            refine wpAnyT_ready (rs := [5, 7]) (by kernel_rfl) rfl ?_
            refine AllT.cons (o := { dst := some 63, op := Op.call { callee := Callee.value (Operand.func 9), args := #[Operand.tmp 61, Operand.tmp 62], argTypes := #[25, 24] }, type := 24, pos := "types.go:322", after := #[⟨3, .data⟩, ⟨4, .data⟩, ⟨2, .chain⟩], guard := none }) rfl (fun K hK => ?_) ?_
            · (go_simp; go_at_call 9; with_reducible refine (HA2.out _ (by first | exact hs.kp | exact hs.drew.kp)).mono ?_; rintro e wr ⟨Ay, cy, rfl, hT, hk⟩; (first | replace hs := hs.cally hT hk | replace hs := hs.drew.cally hT hk); clear hT hk; go_wp2_with fail)
              refine hK.out _ _ (fun _ => ?_) (fun hE => ?_)
              · exact HQ9.out _ (by first | exact hs.kp | exact hs.drew.kp)
              have hS := hE (by kernel_rfl)
              clear hK K hE
              try simp only [Act.put, List.setIfInBounds_toArray, List.set_cons_zero, List.set_cons_succ]
              refine wpAnyT_ready (rs := [7]) (by kernel_rfl) rfl ?_
              refine AllT.cons (o := { dst := some 12, op := Op.alloc 24, type := 0, pos := "types.go:322", after := #[], guard := none }) rfl (fun K hK => ?_) ?_
              · (go_simp; refine name_world ?_; intro wz7 hw; (first | replace hs := hs.box7 hw | replace hs := hs.drew.box7 hw | replace hs := hs.box7d hw | replace hs := hs.drew.box7d hw); (try rw [drew_size] at hs); clear hw)
                refine hK.out _ _ (fun _ => ?_) (fun hE => ?_)
                · exact HQ9.out _ (by first | exact hs.kp | exact hs.drew.kp)
                have hS := hE (by kernel_rfl)
                clear hK K hE
                try simp only [Act.put, List.setIfInBounds_toArray, List.set_cons_zero, List.set_cons_succ]
                refine wpAnyT_ready (rs := [8]) (by kernel_rfl) rfl ?_
                refine AllT.cons (o := { dst := none, op := Op.store 24 (Operand.tmp 11) (Operand.tmp 60), type := 0, pos := "types.go:322", after := #[⟨6, .data⟩, ⟨2, .data⟩, ⟨5, .chain⟩, ⟨0, .phase⟩, ⟨1, .phase⟩, ⟨2, .phase⟩, ⟨3, .textOnly .lateStores⟩, ⟨4, .textOnly .lateStores⟩, ⟨5, .textOnly .lateStoresUnsure⟩, ⟨6, .phase⟩, ⟨7, .phase⟩], guard := none }) rfl (fun K hK => ?_) ?_
                · (obtain ⟨hB6, -⟩ := hs.b6 _ rfl; have r0 := hB6.cell (i := 0) rfl; have r1 := hB6.cell (i := 1) rfl; have r2 := hB6.cell (i := 2) rfl; have r3 := hB6.cell (i := 3) rfl; have f0 := hB6.free 0; have f1 := hB6.free 1; have f2 := hB6.free 2; have f3 := hB6.free 3; go_simp)
                  refine hK.out _ _ (fun he => nof he) (fun hE => ?_)
                  clear hK K hE
                  try simp only [Act.put, List.setIfInBounds_toArray, List.set_cons_zero, List.set_cons_succ]
                  refine wpAnyT_ready (rs := [9]) (by kernel_rfl) rfl ?_
                  refine AllT.cons (o := { dst := none, op := Op.store 24 (Operand.tmp 12) (Operand.tmp 63), type := 0, pos := "types.go:322", after := #[⟨7, .data⟩, ⟨5, .data⟩, ⟨8, .chain⟩, ⟨0, .phase⟩, ⟨1, .phase⟩, ⟨2, .phase⟩, ⟨3, .phase⟩, ⟨4, .phase⟩, ⟨5, .phase⟩, ⟨6, .phase⟩, ⟨7, .phase⟩, ⟨8, .phase⟩], guard := none }) rfl (fun K hK => ?_) ?_
                  · (obtain ⟨hB6, -⟩ := hs.b6 _ rfl; obtain ⟨hB7, -⟩ := hs.b7 _ rfl; obtain ⟨-, hK6⟩ := four (show Blk _ _ _ [_, _, _, _] from hB6) (.int .i64 x.kind) (.string x.name) (.int .i64 x.var) (.slice Ax x.args.length cx); have hB7s := hB7.keeps hK6 (fun e => hs.ne _ _ rfl rfl e.symm); have q0 := hB7s.cell (i := 0) rfl; have q1 := hB7s.cell (i := 1) rfl; have q2 := hB7s.cell (i := 2) rfl; have q3 := hB7s.cell (i := 3) rfl; have h0 := hB7s.free 0; have h1 := hB7s.free 1; have h2 := hB7s.free 2; have h3 := hB7s.free 3; go_simp)
                    refine hK.out _ _ (fun he => nof he) (fun hE => ?_)
                    clear hK K hE
                    try simp only [Act.put, List.setIfInBounds_toArray, List.set_cons_zero, List.set_cons_succ]
                    refine wpAnyT_done (by kernel_rfl) ?_ _
                    refine NoPanic.normal ?_
                    go_wp2_with fail
                    go_meet
                    exact ⟨_, _, Ax, cx, Ay, cy, rfl, rfl, hs.fin rfl⟩
                  exact AllT.nil
                exact AllT.nil
              exact AllT.nil
            refine AllT.cons (o := { dst := some 12, op := Op.alloc 24, type := 0, pos := "types.go:322", after := #[], guard := none }) rfl (fun K hK => ?_) ?_
            · (go_simp; refine name_world ?_; intro wz7 hw; (first | replace hs := hs.box7 hw | replace hs := hs.drew.box7 hw | replace hs := hs.box7d hw | replace hs := hs.drew.box7d hw); (try rw [drew_size] at hs); clear hw)
              refine hK.out _ _ (fun _ => ?_) (fun hE => ?_)
              · exact HQ9.out _ (by first | exact hs.kp | exact hs.drew.kp)
              have hS := hE (by kernel_rfl)
              clear hK K hE
              try simp only [Act.put, List.setIfInBounds_toArray, List.set_cons_zero, List.set_cons_succ]
              refine wpAnyT_ready (rs := [5]) (by kernel_rfl) rfl ?_
              refine AllT.cons (o := { dst := some 63, op := Op.call { callee := Callee.value (Operand.func 9), args := #[Operand.tmp 61, Operand.tmp 62], argTypes := #[25, 24] }, type := 24, pos := "types.go:322", after := #[⟨3, .data⟩, ⟨4, .data⟩, ⟨2, .chain⟩], guard := none }) rfl (fun K hK => ?_) ?_
              · (go_simp; go_at_call 9; with_reducible refine (HA2.out _ (by first | exact hs.kp | exact hs.drew.kp)).mono ?_; rintro e wr ⟨Ay, cy, rfl, hT, hk⟩; (first | replace hs := hs.cally hT hk | replace hs := hs.drew.cally hT hk); clear hT hk; go_wp2_with fail)
                refine hK.out _ _ (fun _ => ?_) (fun hE => ?_)
                · exact HQ9.out _ (by first | exact hs.kp | exact hs.drew.kp)
                have hS := hE (by kernel_rfl)
                clear hK K hE
                try simp only [Act.put, List.setIfInBounds_toArray, List.set_cons_zero, List.set_cons_succ]
                refine wpAnyT_ready (rs := [8]) (by kernel_rfl) rfl ?_
                refine AllT.cons (o := { dst := none, op := Op.store 24 (Operand.tmp 11) (Operand.tmp 60), type := 0, pos := "types.go:322", after := #[⟨6, .data⟩, ⟨2, .data⟩, ⟨5, .chain⟩, ⟨0, .phase⟩, ⟨1, .phase⟩, ⟨2, .phase⟩, ⟨3, .textOnly .lateStores⟩, ⟨4, .textOnly .lateStores⟩, ⟨5, .textOnly .lateStoresUnsure⟩, ⟨6, .phase⟩, ⟨7, .phase⟩], guard := none }) rfl (fun K hK => ?_) ?_
                · (obtain ⟨hB6, -⟩ := hs.b6 _ rfl; have r0 := hB6.cell (i := 0) rfl; have r1 := hB6.cell (i := 1) rfl; have r2 := hB6.cell (i := 2) rfl; have r3 := hB6.cell (i := 3) rfl; have f0 := hB6.free 0; have f1 := hB6.free 1; have f2 := hB6.free 2; have f3 := hB6.free 3; go_simp)
                  refine hK.out _ _ (fun he => nof he) (fun hE => ?_)
                  clear hK K hE
                  try simp only [Act.put, List.setIfInBounds_toArray, List.set_cons_zero, List.set_cons_succ]
                  refine wpAnyT_ready (rs := [9]) (by kernel_rfl) rfl ?_
                  refine AllT.cons (o := { dst := none, op := Op.store 24 (Operand.tmp 12) (Operand.tmp 63), type := 0, pos := "types.go:322", after := #[⟨7, .data⟩, ⟨5, .data⟩, ⟨8, .chain⟩, ⟨0, .phase⟩, ⟨1, .phase⟩, ⟨2, .phase⟩, ⟨3, .phase⟩, ⟨4, .phase⟩, ⟨5, .phase⟩, ⟨6, .phase⟩, ⟨7, .phase⟩, ⟨8, .phase⟩], guard := none }) rfl (fun K hK => ?_) ?_
                  · (obtain ⟨hB6, -⟩ := hs.b6 _ rfl; obtain ⟨hB7, -⟩ := hs.b7 _ rfl; obtain ⟨-, hK6⟩ := four (show Blk _ _ _ [_, _, _, _] from hB6) (.int .i64 x.kind) (.string x.name) (.int .i64 x.var) (.slice Ax x.args.length cx); have hB7s := hB7.keeps hK6 (fun e => hs.ne _ _ rfl rfl e.symm); have q0 := hB7s.cell (i := 0) rfl; have q1 := hB7s.cell (i := 1) rfl; have q2 := hB7s.cell (i := 2) rfl; have q3 := hB7s.cell (i := 3) rfl; have h0 := hB7s.free 0; have h1 := hB7s.free 1; have h2 := hB7s.free 2; have h3 := hB7s.free 3; go_simp)
                    refine hK.out _ _ (fun he => nof he) (fun hE => ?_)
                    clear hK K hE
                    try simp only [Act.put, List.setIfInBounds_toArray, List.set_cons_zero, List.set_cons_succ]
                    refine wpAnyT_done (by kernel_rfl) ?_ _
                    refine NoPanic.normal ?_
                    go_wp2_with fail
                    go_meet
                    exact ⟨_, _, Ax, cx, Ay, cy, rfl, rfl, hs.fin rfl⟩
                  exact AllT.nil
                exact AllT.nil
              exact AllT.nil
            exact AllT.nil
          refine AllT.cons (o := { dst := some 12, op := Op.alloc 24, type := 0, pos := "types.go:322", after := #[], guard := none }) rfl (fun K hK => ?_) ?_
          · (go_simp; refine name_world ?_; intro wz7 hw; (first | replace hs := hs.box7 hw | replace hs := hs.drew.box7 hw | replace hs := hs.box7d hw | replace hs := hs.drew.box7d hw); (try rw [drew_size] at hs); clear hw)
            refine hK.out _ _ (fun _ => ?_) (fun hE => ?_)
            · exact HQ9.out _ (by first | exact hs.kp | exact hs.drew.kp)
            have hS := hE (by kernel_rfl)
            clear hK K hE
            try simp only [Act.put, List.setIfInBounds_toArray, List.set_cons_zero, List.set_cons_succ]
            refine wpAnyT_ready (rs := [2]) (by kernel_rfl) rfl ?_
            refine AllT.cons (o := { dst := some 60, op := Op.call { callee := Callee.value (Operand.func 9), args := #[Operand.tmp 58, Operand.tmp 59], argTypes := #[25, 24] }, type := 24, pos := "types.go:322", after := #[⟨0, .data⟩, ⟨1, .data⟩], guard := none }) rfl (fun K hK => ?_) ?_
            · (go_simp; go_at_call 9; with_reducible refine (HA1.out _ (by first | exact hs.kp | exact hs.drew.kp)).mono ?_; rintro e wp ⟨Ax, cx, rfl, hT, hk⟩; (first | replace hs := hs.callx hT hk | replace hs := hs.drew.callx hT hk); clear hT hk; go_wp2_with fail)
              refine hK.out _ _ (fun _ => ?_) (fun hE => ?_)
              · exact HQ9.out _ (by first | exact hs.kp | exact hs.drew.kp)
              have hS := hE (by kernel_rfl)
              clear hK K hE
              try simp only [Act.put, List.setIfInBounds_toArray, List.set_cons_zero, List.set_cons_succ]
              refine wpAnyT_ready (rs := [5]) (by kernel_rfl) rfl ?_
              refine AllT.cons (o := { dst := some 63, op := Op.call { callee := Callee.value (Operand.func 9), args := #[Operand.tmp 61, Operand.tmp 62], argTypes := #[25, 24] }, type := 24, pos := "types.go:322", after := #[⟨3, .data⟩, ⟨4, .data⟩, ⟨2, .chain⟩], guard := none }) rfl (fun K hK => ?_) ?_
              · (go_simp; go_at_call 9; with_reducible refine (HA2.out _ (by first | exact hs.kp | exact hs.drew.kp)).mono ?_; rintro e wr ⟨Ay, cy, rfl, hT, hk⟩; (first | replace hs := hs.cally hT hk | replace hs := hs.drew.cally hT hk); clear hT hk; go_wp2_with fail)
                refine hK.out _ _ (fun _ => ?_) (fun hE => ?_)
                · exact HQ9.out _ (by first | exact hs.kp | exact hs.drew.kp)
                have hS := hE (by kernel_rfl)
                clear hK K hE
                try simp only [Act.put, List.setIfInBounds_toArray, List.set_cons_zero, List.set_cons_succ]
                refine wpAnyT_ready (rs := [8]) (by kernel_rfl) rfl ?_
                refine AllT.cons (o := { dst := none, op := Op.store 24 (Operand.tmp 11) (Operand.tmp 60), type := 0, pos := "types.go:322", after := #[⟨6, .data⟩, ⟨2, .data⟩, ⟨5, .chain⟩, ⟨0, .phase⟩, ⟨1, .phase⟩, ⟨2, .phase⟩, ⟨3, .textOnly .lateStores⟩, ⟨4, .textOnly .lateStores⟩, ⟨5, .textOnly .lateStoresUnsure⟩, ⟨6, .phase⟩, ⟨7, .phase⟩], guard := none }) rfl (fun K hK => ?_) ?_
                · (obtain ⟨hB6, -⟩ := hs.b6 _ rfl; have r0 := hB6.cell (i := 0) rfl; have r1 := hB6.cell (i := 1) rfl; have r2 := hB6.cell (i := 2) rfl; have r3 := hB6.cell (i := 3) rfl; have f0 := hB6.free 0; have f1 := hB6.free 1; have f2 := hB6.free 2; have f3 := hB6.free 3; go_simp)
                  refine hK.out _ _ (fun he => nof he) (fun hE => ?_)
                  clear hK K hE
                  try simp only [Act.put, List.setIfInBounds_toArray, List.set_cons_zero, List.set_cons_succ]
                  refine wpAnyT_ready (rs := [9]) (by kernel_rfl) rfl ?_
                  refine AllT.cons (o := { dst := none, op := Op.store 24 (Operand.tmp 12) (Operand.tmp 63), type := 0, pos := "types.go:322", after := #[⟨7, .data⟩, ⟨5, .data⟩, ⟨8, .chain⟩, ⟨0, .phase⟩, ⟨1, .phase⟩, ⟨2, .phase⟩, ⟨3, .phase⟩, ⟨4, .phase⟩, ⟨5, .phase⟩, ⟨6, .phase⟩, ⟨7, .phase⟩, ⟨8, .phase⟩], guard := none }) rfl (fun K hK => ?_) ?_
                  · (obtain ⟨hB6, -⟩ := hs.b6 _ rfl; obtain ⟨hB7, -⟩ := hs.b7 _ rfl; obtain ⟨-, hK6⟩ := four (show Blk _ _ _ [_, _, _, _] from hB6) (.int .i64 x.kind) (.string x.name) (.int .i64 x.var) (.slice Ax x.args.length cx); have hB7s := hB7.keeps hK6 (fun e => hs.ne _ _ rfl rfl e.symm); have q0 := hB7s.cell (i := 0) rfl; have q1 := hB7s.cell (i := 1) rfl; have q2 := hB7s.cell (i := 2) rfl; have q3 := hB7s.cell (i := 3) rfl; have h0 := hB7s.free 0; have h1 := hB7s.free 1; have h2 := hB7s.free 2; have h3 := hB7s.free 3; go_simp)
                    refine hK.out _ _ (fun he => nof he) (fun hE => ?_)
                    clear hK K hE
                    try simp only [Act.put, List.setIfInBounds_toArray, List.set_cons_zero, List.set_cons_succ]
                    refine wpAnyT_done (by kernel_rfl) ?_ _
                    refine NoPanic.normal ?_
                    go_wp2_with fail
                    go_meet
                    exact ⟨_, _, Ax, cx, Ay, cy, rfl, rfl, hs.fin rfl⟩
                  exact AllT.nil
                exact AllT.nil
              exact AllT.nil
            exact AllT.nil
          exact AllT.nil
        refine AllT.cons (o := { dst := some 12, op := Op.alloc 24, type := 0, pos := "types.go:322", after := #[], guard := none }) rfl (fun K hK => ?_) ?_
        · (go_simp; refine name_world ?_; intro wz7 hw; (first | replace hs := hs.box7 hw | replace hs := hs.drew.box7 hw | replace hs := hs.box7d hw | replace hs := hs.drew.box7d hw); (try rw [drew_size] at hs); clear hw)
          refine hK.out _ _ (fun _ => ?_) (fun hE => ?_)
          · exact HQ9.out _ (by first | exact hs.kp | exact hs.drew.kp)
          have hS := hE (by kernel_rfl)
          clear hK K hE
          try simp only [Act.put, List.setIfInBounds_toArray, List.set_cons_zero, List.set_cons_succ]
          refine wpAnyT_ready (rs := [2, 4]) (by kernel_rfl) rfl ?_
          refine AllT.cons (o := { dst := some 60, op := Op.call { callee := Callee.value (Operand.func 9), args := #[Operand.tmp 58, Operand.tmp 59], argTypes := #[25, 24] }, type := 24, pos := "types.go:322", after := #[⟨0, .data⟩, ⟨1, .data⟩], guard := none }) rfl (fun K hK => ?_) ?_
          · (go_simp; go_at_call 9; with_reducible refine (HA1.out _ (by first | exact hs.kp | exact hs.drew.kp)).mono ?_; rintro e wp ⟨Ax, cx, rfl, hT, hk⟩; (first | replace hs := hs.callx hT hk | replace hs := hs.drew.callx hT hk); clear hT hk; go_wp2_with fail)
            refine hK.out _ _ (fun _ => ?_) (fun hE => ?_)
            · exact HQ9.out _ (by first | exact hs.kp | exact hs.drew.kp)
            have hS := hE (by kernel_rfl)
            clear hK K hE
            try simp only [Act.put, List.setIfInBounds_toArray, List.set_cons_zero, List.set_cons_succ]
            refine wpAnyT_ready (rs := [4]) (by kernel_rfl) rfl ?_
            refine AllT.cons (o := { dst := some 62, op := Op.load 24 (Operand.tmp 3), type := 24, pos := "types.go:322", after := #[], guard := none }) rfl (fun K hK => ?_) ?_
            · go_simp
              refine hK.out _ _ (fun _ => ?_) (fun hE => ?_)
              · exact HQ9.out _ (by first | exact hs.kp | exact hs.drew.kp)
              have hS := hE (by kernel_rfl)
              clear hK K hE
              try simp only [Act.put, List.setIfInBounds_toArray, List.set_cons_zero, List.set_cons_succ]
              refine wpAnyT_ready (rs := [5]) (by kernel_rfl) rfl ?_
              refine AllT.cons (o := { dst := some 63, op := Op.call { callee := Callee.value (Operand.func 9), args := #[Operand.tmp 61, Operand.tmp 62], argTypes := #[25, 24] }, type := 24, pos := "types.go:322", after := #[⟨3, .data⟩, ⟨4, .data⟩, ⟨2, .chain⟩], guard := none }) rfl (fun K hK => ?_) ?_
              · (go_simp; go_at_call 9; with_reducible refine (HA2.out _ (by first | exact hs.kp | exact hs.drew.kp)).mono ?_; rintro e wr ⟨Ay, cy, rfl, hT, hk⟩; (first | replace hs := hs.cally hT hk | replace hs := hs.drew.cally hT hk); clear hT hk; go_wp2_with fail)
                refine hK.out _ _ (fun _ => ?_) (fun hE => ?_)
                · exact HQ9.out _ (by first | exact hs.kp | exact hs.drew.kp)
                have hS := hE (by kernel_rfl)
                clear hK K hE
                try simp only [Act.put, List.setIfInBounds_toArray, List.set_cons_zero, List.set_cons_succ]
                refine wpAnyT_ready (rs := [8]) (by kernel_rfl) rfl ?_
                refine AllT.cons (o := { dst := none, op := Op.store 24 (Operand.tmp 11) (Operand.tmp 60), type := 0, pos := "types.go:322", after := #[⟨6, .data⟩, ⟨2, .data⟩, ⟨5, .chain⟩, ⟨0, .phase⟩, ⟨1, .phase⟩, ⟨2, .phase⟩, ⟨3, .textOnly .lateStores⟩, ⟨4, .textOnly .lateStores⟩, ⟨5, .textOnly .lateStoresUnsure⟩, ⟨6, .phase⟩, ⟨7, .phase⟩], guard := none }) rfl (fun K hK => ?_) ?_
                · (obtain ⟨hB6, -⟩ := hs.b6 _ rfl; have r0 := hB6.cell (i := 0) rfl; have r1 := hB6.cell (i := 1) rfl; have r2 := hB6.cell (i := 2) rfl; have r3 := hB6.cell (i := 3) rfl; have f0 := hB6.free 0; have f1 := hB6.free 1; have f2 := hB6.free 2; have f3 := hB6.free 3; go_simp)
                  refine hK.out _ _ (fun he => nof he) (fun hE => ?_)
                  clear hK K hE
                  try simp only [Act.put, List.setIfInBounds_toArray, List.set_cons_zero, List.set_cons_succ]
                  refine wpAnyT_ready (rs := [9]) (by kernel_rfl) rfl ?_
                  refine AllT.cons (o := { dst := none, op := Op.store 24 (Operand.tmp 12) (Operand.tmp 63), type := 0, pos := "types.go:322", after := #[⟨7, .data⟩, ⟨5, .data⟩, ⟨8, .chain⟩, ⟨0, .phase⟩, ⟨1, .phase⟩, ⟨2, .phase⟩, ⟨3, .phase⟩, ⟨4, .phase⟩, ⟨5, .phase⟩, ⟨6, .phase⟩, ⟨7, .phase⟩, ⟨8, .phase⟩], guard := none }) rfl (fun K hK => ?_) ?_
                  · (obtain ⟨hB6, -⟩ := hs.b6 _ rfl; obtain ⟨hB7, -⟩ := hs.b7 _ rfl; obtain ⟨-, hK6⟩ := four (show Blk _ _ _ [_, _, _, _] from hB6) (.int .i64 x.kind) (.string x.name) (.int .i64 x.var) (.slice Ax x.args.length cx); have hB7s := hB7.keeps hK6 (fun e => hs.ne _ _ rfl rfl e.symm); have q0 := hB7s.cell (i := 0) rfl; have q1 := hB7s.cell (i := 1) rfl; have q2 := hB7s.cell (i := 2) rfl; have q3 := hB7s.cell (i := 3) rfl; have h0 := hB7s.free 0; have h1 := hB7s.free 1; have h2 := hB7s.free 2; have h3 := hB7s.free 3; go_simp)
                    refine hK.out _ _ (fun he => nof he) (fun hE => ?_)
                    clear hK K hE
                    try simp only [Act.put, List.setIfInBounds_toArray, List.set_cons_zero, List.set_cons_succ]
                    refine wpAnyT_done (by kernel_rfl) ?_ _
                    refine NoPanic.normal ?_
                    go_wp2_with fail
                    go_meet
                    exact ⟨_, _, Ax, cx, Ay, cy, rfl, rfl, hs.fin rfl⟩
                  exact AllT.nil
                exact AllT.nil
              exact AllT.nil
            exact AllT.nil
          refine AllT.cons (o := { dst := some 62, op := Op.load 24 (Operand.tmp 3), type := 24, pos := "types.go:322", after := #[], guard := none }) rfl (fun K hK => ?_) ?_
          · go_simp
            refine hK.out _ _ (fun _ => ?_) (fun hE => ?_)
            · exact HQ9.out _ (by first | exact hs.kp | exact hs.drew.kp)
            have hS := hE (by kernel_rfl)
            clear hK K hE
            try simp only [Act.put, List.setIfInBounds_toArray, List.set_cons_zero, List.set_cons_succ]
            refine wpAnyT_ready (rs := [2]) (by kernel_rfl) rfl ?_
            refine AllT.cons (o := { dst := some 60, op := Op.call { callee := Callee.value (Operand.func 9), args := #[Operand.tmp 58, Operand.tmp 59], argTypes := #[25, 24] }, type := 24, pos := "types.go:322", after := #[⟨0, .data⟩, ⟨1, .data⟩], guard := none }) rfl (fun K hK => ?_) ?_
            · (go_simp; go_at_call 9; with_reducible refine (HA1.out _ (by first | exact hs.kp | exact hs.drew.kp)).mono ?_; rintro e wp ⟨Ax, cx, rfl, hT, hk⟩; (first | replace hs := hs.callx hT hk | replace hs := hs.drew.callx hT hk); clear hT hk; go_wp2_with fail)
              refine hK.out _ _ (fun _ => ?_) (fun hE => ?_)
              · exact HQ9.out _ (by first | exact hs.kp | exact hs.drew.kp)
              have hS := hE (by kernel_rfl)
              clear hK K hE
              try simp only [Act.put, List.setIfInBounds_toArray, List.set_cons_zero, List.set_cons_succ]
              refine wpAnyT_ready (rs := [5]) (by kernel_rfl) rfl ?_
              refine AllT.cons (o := { dst := some 63, op := Op.call { callee := Callee.value (Operand.func 9), args := #[Operand.tmp 61, Operand.tmp 62], argTypes := #[25, 24] }, type := 24, pos := "types.go:322", after := #[⟨3, .data⟩, ⟨4, .data⟩, ⟨2, .chain⟩], guard := none }) rfl (fun K hK => ?_) ?_
              · (go_simp; go_at_call 9; with_reducible refine (HA2.out _ (by first | exact hs.kp | exact hs.drew.kp)).mono ?_; rintro e wr ⟨Ay, cy, rfl, hT, hk⟩; (first | replace hs := hs.cally hT hk | replace hs := hs.drew.cally hT hk); clear hT hk; go_wp2_with fail)
                refine hK.out _ _ (fun _ => ?_) (fun hE => ?_)
                · exact HQ9.out _ (by first | exact hs.kp | exact hs.drew.kp)
                have hS := hE (by kernel_rfl)
                clear hK K hE
                try simp only [Act.put, List.setIfInBounds_toArray, List.set_cons_zero, List.set_cons_succ]
                refine wpAnyT_ready (rs := [8]) (by kernel_rfl) rfl ?_
                refine AllT.cons (o := { dst := none, op := Op.store 24 (Operand.tmp 11) (Operand.tmp 60), type := 0, pos := "types.go:322", after := #[⟨6, .data⟩, ⟨2, .data⟩, ⟨5, .chain⟩, ⟨0, .phase⟩, ⟨1, .phase⟩, ⟨2, .phase⟩, ⟨3, .textOnly .lateStores⟩, ⟨4, .textOnly .lateStores⟩, ⟨5, .textOnly .lateStoresUnsure⟩, ⟨6, .phase⟩, ⟨7, .phase⟩], guard := none }) rfl (fun K hK => ?_) ?_
                · (obtain ⟨hB6, -⟩ := hs.b6 _ rfl; have r0 := hB6.cell (i := 0) rfl; have r1 := hB6.cell (i := 1) rfl; have r2 := hB6.cell (i := 2) rfl; have r3 := hB6.cell (i := 3) rfl; have f0 := hB6.free 0; have f1 := hB6.free 1; have f2 := hB6.free 2; have f3 := hB6.free 3; go_simp)
                  refine hK.out _ _ (fun he => nof he) (fun hE => ?_)
                  clear hK K hE
                  try simp only [Act.put, List.setIfInBounds_toArray, List.set_cons_zero, List.set_cons_succ]
                  refine wpAnyT_ready (rs := [9]) (by kernel_rfl) rfl ?_
                  refine AllT.cons (o := { dst := none, op := Op.store 24 (Operand.tmp 12) (Operand.tmp 63), type := 0, pos := "types.go:322", after := #[⟨7, .data⟩, ⟨5, .data⟩, ⟨8, .chain⟩, ⟨0, .phase⟩, ⟨1, .phase⟩, ⟨2, .phase⟩, ⟨3, .phase⟩, ⟨4, .phase⟩, ⟨5, .phase⟩, ⟨6, .phase⟩, ⟨7, .phase⟩, ⟨8, .phase⟩], guard := none }) rfl (fun K hK => ?_) ?_
                  · (obtain ⟨hB6, -⟩ := hs.b6 _ rfl; obtain ⟨hB7, -⟩ := hs.b7 _ rfl; obtain ⟨-, hK6⟩ := four (show Blk _ _ _ [_, _, _, _] from hB6) (.int .i64 x.kind) (.string x.name) (.int .i64 x.var) (.slice Ax x.args.length cx); have hB7s := hB7.keeps hK6 (fun e => hs.ne _ _ rfl rfl e.symm); have q0 := hB7s.cell (i := 0) rfl; have q1 := hB7s.cell (i := 1) rfl; have q2 := hB7s.cell (i := 2) rfl; have q3 := hB7s.cell (i := 3) rfl; have h0 := hB7s.free 0; have h1 := hB7s.free 1; have h2 := hB7s.free 2; have h3 := hB7s.free 3; go_simp)
                    refine hK.out _ _ (fun he => nof he) (fun hE => ?_)
                    clear hK K hE
                    try simp only [Act.put, List.setIfInBounds_toArray, List.set_cons_zero, List.set_cons_succ]
                    refine wpAnyT_done (by kernel_rfl) ?_ _
                    refine NoPanic.normal ?_
                    go_wp2_with fail
                    go_meet
                    exact ⟨_, _, Ax, cx, Ay, cy, rfl, rfl, hs.fin rfl⟩
                  exact AllT.nil
                exact AllT.nil
              exact AllT.nil
            exact AllT.nil
          exact AllT.nil
        exact AllT.nil
      refine AllT.cons (o := { dst := some 12, op := Op.alloc 24, type := 0, pos := "types.go:322", after := #[], guard := none }) rfl (fun K hK => ?_) ?_
      · (go_simp; refine name_world ?_; intro wz7 hw; (first | replace hs := hs.box7 hw | replace hs := hs.drew.box7 hw | replace hs := hs.box7d hw | replace hs := hs.drew.box7d hw); (try rw [drew_size] at hs); clear hw)
        refine hK.out _ _ (fun _ => ?_) (fun hE => ?_)
        · exact HQ9.out _ (by first | exact hs.kp | exact hs.drew.kp)
        have hS := hE (by kernel_rfl)
        clear hK K hE
        try simp only [Act.put, List.setIfInBounds_toArray, List.set_cons_zero, List.set_cons_succ]
        refine wpAnyT_ready (rs := [2, 4, 6]) (by kernel_rfl) rfl ?_
        refine AllT.cons (o := { dst := some 60, op := Op.call { callee := Callee.value (Operand.func 9), args := #[Operand.tmp 58, Operand.tmp 59], argTypes := #[25, 24] }, type := 24, pos := "types.go:322", after := #[⟨0, .data⟩, ⟨1, .data⟩], guard := none }) rfl (fun K hK => ?_) ?_
        · (go_simp; go_at_call 9; with_reducible refine (HA1.out _ (by first | exact hs.kp | exact hs.drew.kp)).mono ?_; rintro e wp ⟨Ax, cx, rfl, hT, hk⟩; (first | replace hs := hs.callx hT hk | replace hs := hs.drew.callx hT hk); clear hT hk; go_wp2_with fail)
          refine hK.out _ _ (fun _ => ?_) (fun hE => ?_)
          · exact HQ9.out _ (by first | exact hs.kp | exact hs.drew.kp)
          have hS := hE (by kernel_rfl)
          clear hK K hE
          try simp only [Act.put, List.setIfInBounds_toArray, List.set_cons_zero, List.set_cons_succ]
          refine wpAnyT_ready (rs := [4, 6]) (by kernel_rfl) rfl ?_
          refine AllT.cons (o := { dst := some 62, op := Op.load 24 (Operand.tmp 3), type := 24, pos := "types.go:322", after := #[], guard := none }) rfl (fun K hK => ?_) ?_
          · go_simp
            refine hK.out _ _ (fun _ => ?_) (fun hE => ?_)
            · exact HQ9.out _ (by first | exact hs.kp | exact hs.drew.kp)
            have hS := hE (by kernel_rfl)
            clear hK K hE
            try simp only [Act.put, List.setIfInBounds_toArray, List.set_cons_zero, List.set_cons_succ]
            refine wpAnyT_ready (rs := [5, 6]) (by kernel_rfl) rfl ?_
            refine AllT.cons (o := { dst := some 63, op := Op.call { callee := Callee.value (Operand.func 9), args := #[Operand.tmp 61, Operand.tmp 62], argTypes := #[25, 24] }, type := 24, pos := "types.go:322", after := #[⟨3, .data⟩, ⟨4, .data⟩, ⟨2, .chain⟩], guard := none }) rfl (fun K hK => ?_) ?_
            · (go_simp; go_at_call 9; with_reducible refine (HA2.out _ (by first | exact hs.kp | exact hs.drew.kp)).mono ?_; rintro e wr ⟨Ay, cy, rfl, hT, hk⟩; (first | replace hs := hs.cally hT hk | replace hs := hs.drew.cally hT hk); clear hT hk; go_wp2_with fail)
              refine hK.out _ _ (fun _ => ?_) (fun hE => ?_)
              · exact HQ9.out _ (by first | exact hs.kp | exact hs.drew.kp)
              have hS := hE (by kernel_rfl)
              clear hK K hE
              try simp only [Act.put, List.setIfInBounds_toArray, List.set_cons_zero, List.set_cons_succ]
              refine wpAnyT_ready (rs := [6]) (by kernel_rfl) rfl ?_
              refine AllT.cons (o := { dst := some 11, op := Op.alloc 24, type := 0, pos := "types.go:322", after := #[], guard := none }) rfl (fun K hK => ?_) ?_
              · (go_simp; refine name_world ?_; intro wz6 hw; (first | replace hs := hs.box6 hw | replace hs := hs.drew.box6 hw | replace hs := hs.box6d hw | replace hs := hs.drew.box6d hw); (try rw [drew_size] at hs); clear hw)
                refine hK.out _ _ (fun _ => ?_) (fun hE => ?_)
                · exact HQ9.out _ (by first | exact hs.kp | exact hs.drew.kp)
                have hS := hE (by kernel_rfl)
                clear hK K hE
                try simp only [Act.put, List.setIfInBounds_toArray, List.set_cons_zero, List.set_cons_succ]
                refine wpAnyT_ready (rs := [8]) (by kernel_rfl) rfl ?_
                refine AllT.cons (o := { dst := none, op := Op.store 24 (Operand.tmp 11) (Operand.tmp 60), type := 0, pos := "types.go:322", after := #[⟨6, .data⟩, ⟨2, .data⟩, ⟨5, .chain⟩, ⟨0, .phase⟩, ⟨1, .phase⟩, ⟨2, .phase⟩, ⟨3, .textOnly .lateStores⟩, ⟨4, .textOnly .lateStores⟩, ⟨5, .textOnly .lateStoresUnsure⟩, ⟨6, .phase⟩, ⟨7, .phase⟩], guard := none }) rfl (fun K hK => ?_) ?_
                · (obtain ⟨hB6, -⟩ := hs.b6 _ rfl; have r0 := hB6.cell (i := 0) rfl; have r1 := hB6.cell (i := 1) rfl; have r2 := hB6.cell (i := 2) rfl; have r3 := hB6.cell (i := 3) rfl; have f0 := hB6.free 0; have f1 := hB6.free 1; have f2 := hB6.free 2; have f3 := hB6.free 3; go_simp)
                  refine hK.out _ _ (fun he => nof he) (fun hE => ?_)
                  clear hK K hE
                  try simp only [Act.put, List.setIfInBounds_toArray, List.set_cons_zero, List.set_cons_succ]
                  refine wpAnyT_ready (rs := [9]) (by kernel_rfl) rfl ?_
                  refine AllT.cons (o := { dst := none, op := Op.store 24 (Operand.tmp 12) (Operand.tmp 63), type := 0, pos := "types.go:322", after := #[⟨7, .data⟩, ⟨5, .data⟩, ⟨8, .chain⟩, ⟨0, .phase⟩, ⟨1, .phase⟩, ⟨2, .phase⟩, ⟨3, .phase⟩, ⟨4, .phase⟩, ⟨5, .phase⟩, ⟨6, .phase⟩, ⟨7, .phase⟩, ⟨8, .phase⟩], guard := none }) rfl (fun K hK => ?_) ?_
                  · (obtain ⟨hB6, -⟩ := hs.b6 _ rfl; obtain ⟨hB7, -⟩ := hs.b7 _ rfl; obtain ⟨-, hK6⟩ := four (show Blk _ _ _ [_, _, _, _] from hB6) (.int .i64 x.kind) (.string x.name) (.int .i64 x.var) (.slice Ax x.args.length cx); have hB7s := hB7.keeps hK6 (fun e => hs.ne _ _ rfl rfl e.symm); have q0 := hB7s.cell (i := 0) rfl; have q1 := hB7s.cell (i := 1) rfl; have q2 := hB7s.cell (i := 2) rfl; have q3 := hB7s.cell (i := 3) rfl; have h0 := hB7s.free 0; have h1 := hB7s.free 1; have h2 := hB7s.free 2; have h3 := hB7s.free 3; go_simp)
                    refine hK.out _ _ (fun he => nof he) (fun hE => ?_)
                    clear hK K hE
                    try simp only [Act.put, List.setIfInBounds_toArray, List.set_cons_zero, List.set_cons_succ]
                    refine wpAnyT_done (by kernel_rfl) ?_ _
                    refine NoPanic.normal ?_
                    go_wp2_with fail
                    go_meet
                    exact ⟨_, _, Ax, cx, Ay, cy, rfl, rfl, hs.fin rfl⟩
                  exact AllT.nil
                exact AllT.nil
              exact AllT.nil
            refine AllT.cons (o := { dst := some 11, op := Op.alloc 24, type := 0, pos := "types.go:322", after := #[], guard := none }) rfl (fun K hK => ?_) ?_
            · (go_simp; refine name_world ?_; intro wz6 hw; (first | replace hs := hs.box6 hw | replace hs := hs.drew.box6 hw | replace hs := hs.box6d hw | replace hs := hs.drew.box6d hw); (try rw [drew_size] at hs); clear hw)
              refine hK.out _ _ (fun _ => ?_) (fun hE => ?_)
              · exact HQ9.out _ (by first | exact hs.kp | exact hs.drew.kp)
              have hS := hE (by kernel_rfl)
              clear hK K hE
              try simp only [Act.put, List.setIfInBounds_toArray, List.set_cons_zero, List.set_cons_succ]
              refine wpAnyT_ready (rs := [5]) (by kernel_rfl) rfl ?_
              refine AllT.cons (o := { dst := some 63, op := Op.call { callee := Callee.value (Operand.func 9), args := #[Operand.tmp 61, Operand.tmp 62], argTypes := #[25, 24] }, type := 24, pos := "types.go:322", after := #[⟨3, .data⟩, ⟨4, .data⟩, ⟨2, .chain⟩], guard := none }) rfl (fun K hK => ?_) ?_
              · (go_simp; go_at_call 9; with_reducible refine (HA2.out _ (by first | exact hs.kp | exact hs.drew.kp)).mono ?_; rintro e wr ⟨Ay, cy, rfl, hT, hk⟩; (first | replace hs := hs.cally hT hk | replace hs := hs.drew.cally hT hk); clear hT hk; go_wp2_with fail)
                refine hK.out _ _ (fun _ => ?_) (fun hE => ?_)
                · exact HQ9.out _ (by first | exact hs.kp | exact hs.drew.kp)
                have hS := hE (by kernel_rfl)
                clear hK K hE
                try simp only [Act.put, List.setIfInBounds_toArray, List.set_cons_zero, List.set_cons_succ]
                refine wpAnyT_ready (rs := [8]) (by kernel_rfl) rfl ?_
                refine AllT.cons (o := { dst := none, op := Op.store 24 (Operand.tmp 11) (Operand.tmp 60), type := 0, pos := "types.go:322", after := #[⟨6, .data⟩, ⟨2, .data⟩, ⟨5, .chain⟩, ⟨0, .phase⟩, ⟨1, .phase⟩, ⟨2, .phase⟩, ⟨3, .textOnly .lateStores⟩, ⟨4, .textOnly .lateStores⟩, ⟨5, .textOnly .lateStoresUnsure⟩, ⟨6, .phase⟩, ⟨7, .phase⟩], guard := none }) rfl (fun K hK => ?_) ?_
                · (obtain ⟨hB6, -⟩ := hs.b6 _ rfl; have r0 := hB6.cell (i := 0) rfl; have r1 := hB6.cell (i := 1) rfl; have r2 := hB6.cell (i := 2) rfl; have r3 := hB6.cell (i := 3) rfl; have f0 := hB6.free 0; have f1 := hB6.free 1; have f2 := hB6.free 2; have f3 := hB6.free 3; go_simp)
                  refine hK.out _ _ (fun he => nof he) (fun hE => ?_)
                  clear hK K hE
                  try simp only [Act.put, List.setIfInBounds_toArray, List.set_cons_zero, List.set_cons_succ]
                  refine wpAnyT_ready (rs := [9]) (by kernel_rfl) rfl ?_
                  refine AllT.cons (o := { dst := none, op := Op.store 24 (Operand.tmp 12) (Operand.tmp 63), type := 0, pos := "types.go:322", after := #[⟨7, .data⟩, ⟨5, .data⟩, ⟨8, .chain⟩, ⟨0, .phase⟩, ⟨1, .phase⟩, ⟨2, .phase⟩, ⟨3, .phase⟩, ⟨4, .phase⟩, ⟨5, .phase⟩, ⟨6, .phase⟩, ⟨7, .phase⟩, ⟨8, .phase⟩], guard := none }) rfl (fun K hK => ?_) ?_
                  · (obtain ⟨hB6, -⟩ := hs.b6 _ rfl; obtain ⟨hB7, -⟩ := hs.b7 _ rfl; obtain ⟨-, hK6⟩ := four (show Blk _ _ _ [_, _, _, _] from hB6) (.int .i64 x.kind) (.string x.name) (.int .i64 x.var) (.slice Ax x.args.length cx); have hB7s := hB7.keeps hK6 (fun e => hs.ne _ _ rfl rfl e.symm); have q0 := hB7s.cell (i := 0) rfl; have q1 := hB7s.cell (i := 1) rfl; have q2 := hB7s.cell (i := 2) rfl; have q3 := hB7s.cell (i := 3) rfl; have h0 := hB7s.free 0; have h1 := hB7s.free 1; have h2 := hB7s.free 2; have h3 := hB7s.free 3; go_simp)
                    refine hK.out _ _ (fun he => nof he) (fun hE => ?_)
                    clear hK K hE
                    try simp only [Act.put, List.setIfInBounds_toArray, List.set_cons_zero, List.set_cons_succ]
                    refine wpAnyT_done (by kernel_rfl) ?_ _
                    refine NoPanic.normal ?_
                    go_wp2_with fail
                    go_meet
                    exact ⟨_, _, Ax, cx, Ay, cy, rfl, rfl, hs.fin rfl⟩
                  exact AllT.nil
                exact AllT.nil
              exact AllT.nil
            exact AllT.nil
          refine AllT.cons (o := { dst := some 11, op := Op.alloc 24, type := 0, pos := "types.go:322", after := #[], guard := none }) rfl (fun K hK => ?_) ?_
          · (go_simp; refine name_world ?_; intro wz6 hw; (first | replace hs := hs.box6 hw | replace hs := hs.drew.box6 hw | replace hs := hs.box6d hw | replace hs := hs.drew.box6d hw); (try rw [drew_size] at hs); clear hw)
            refine hK.out _ _ (fun _ => ?_) (fun hE => ?_)
            · exact HQ9.out _ (by first | exact hs.kp | exact hs.drew.kp)
            have hS := hE (by kernel_rfl)
            clear hK K hE
            try simp only [Act.put, List.setIfInBounds_toArray, List.set_cons_zero, List.set_cons_succ]
            refine wpAnyT_ready (rs := [4]) (by kernel_rfl) rfl ?_
            refine AllT.cons (o := { dst := some 62, op := Op.load 24 (Operand.tmp 3), type := 24, pos := "types.go:322", after := #[], guard := none }) rfl (fun K hK => ?_) ?_
            · go_simp
              refine hK.out _ _ (fun _ => ?_) (fun hE => ?_)
              · exact HQ9.out _ (by first | exact hs.kp | exact hs.drew.kp)
              have hS := hE (by kernel_rfl)
              clear hK K hE
              try simp only [Act.put, List.setIfInBounds_toArray, List.set_cons_zero, List.set_cons_succ]
              refine wpAnyT_ready (rs := [5]) (by kernel_rfl) rfl ?_
              refine AllT.cons (o := { dst := some 63, op := Op.call { callee := Callee.value (Operand.func 9), args := #[Operand.tmp 61, Operand.tmp 62], argTypes := #[25, 24] }, type := 24, pos := "types.go:322", after := #[⟨3, .data⟩, ⟨4, .data⟩, ⟨2, .chain⟩], guard := none }) rfl (fun K hK => ?_) ?_
              · (go_simp; go_at_call 9; with_reducible refine (HA2.out _ (by first | exact hs.kp | exact hs.drew.kp)).mono ?_; rintro e wr ⟨Ay, cy, rfl, hT, hk⟩; (first | replace hs := hs.cally hT hk | replace hs := hs.drew.cally hT hk); clear hT hk; go_wp2_with fail)
                refine hK.out _ _ (fun _ => ?_) (fun hE => ?_)
                · exact HQ9.out _ (by first | exact hs.kp | exact hs.drew.kp)
                have hS := hE (by kernel_rfl)
                clear hK K hE
                try simp only [Act.put, List.setIfInBounds_toArray, List.set_cons_zero, List.set_cons_succ]
                refine wpAnyT_ready (rs := [8]) (by kernel_rfl) rfl ?_
                refine AllT.cons (o := { dst := none, op := Op.store 24 (Operand.tmp 11) (Operand.tmp 60), type := 0, pos := "types.go:322", after := #[⟨6, .data⟩, ⟨2, .data⟩, ⟨5, .chain⟩, ⟨0, .phase⟩, ⟨1, .phase⟩, ⟨2, .phase⟩, ⟨3, .textOnly .lateStores⟩, ⟨4, .textOnly .lateStores⟩, ⟨5, .textOnly .lateStoresUnsure⟩, ⟨6, .phase⟩, ⟨7, .phase⟩], guard := none }) rfl (fun K hK => ?_) ?_
                · (obtain ⟨hB6, -⟩ := hs.b6 _ rfl; have r0 := hB6.cell (i := 0) rfl; have r1 := hB6.cell (i := 1) rfl; have r2 := hB6.cell (i := 2) rfl; have r3 := hB6.cell (i := 3) rfl; have f0 := hB6.free 0; have f1 := hB6.free 1; have f2 := hB6.free 2; have f3 := hB6.free 3; go_simp)
                  refine hK.out _ _ (fun he => nof he) (fun hE => ?_)
                  clear hK K hE
                  try simp only [Act.put, List.setIfInBounds_toArray, List.set_cons_zero, List.set_cons_succ]
                  refine wpAnyT_ready (rs := [9]) (by kernel_rfl) rfl ?_
                  refine AllT.cons (o := { dst := none, op := Op.store 24 (Operand.tmp 12) (Operand.tmp 63), type := 0, pos := "types.go:322", after := #[⟨7, .data⟩, ⟨5, .data⟩, ⟨8, .chain⟩, ⟨0, .phase⟩, ⟨1, .phase⟩, ⟨2, .phase⟩, ⟨3, .phase⟩, ⟨4, .phase⟩, ⟨5, .phase⟩, ⟨6, .phase⟩, ⟨7, .phase⟩, ⟨8, .phase⟩], guard := none }) rfl (fun K hK => ?_) ?_
                  · (obtain ⟨hB6, -⟩ := hs.b6 _ rfl; obtain ⟨hB7, -⟩ := hs.b7 _ rfl; obtain ⟨-, hK6⟩ := four (show Blk _ _ _ [_, _, _, _] from hB6) (.int .i64 x.kind) (.string x.name) (.int .i64 x.var) (.slice Ax x.args.length cx); have hB7s := hB7.keeps hK6 (fun e => hs.ne _ _ rfl rfl e.symm); have q0 := hB7s.cell (i := 0) rfl; have q1 := hB7s.cell (i := 1) rfl; have q2 := hB7s.cell (i := 2) rfl; have q3 := hB7s.cell (i := 3) rfl; have h0 := hB7s.free 0; have h1 := hB7s.free 1; have h2 := hB7s.free 2; have h3 := hB7s.free 3; go_simp)
                    refine hK.out _ _ (fun he => nof he) (fun hE => ?_)
                    clear hK K hE
                    try simp only [Act.put, List.setIfInBounds_toArray, List.set_cons_zero, List.set_cons_succ]
                    refine wpAnyT_done (by kernel_rfl) ?_ _
                    refine NoPanic.normal ?_
                    go_wp2_with fail
                    go_meet
                    exact ⟨_, _, Ax, cx, Ay, cy, rfl, rfl, hs.fin rfl⟩
                  exact AllT.nil
                exact AllT.nil
              exact AllT.nil
            exact AllT.nil
          exact AllT.nil
        refine AllT.cons (o := { dst := some 62, op := Op.load 24 (Operand.tmp 3), type := 24, pos := "types.go:322", after := #[], guard := none }) rfl (fun K hK => ?_) ?_
        · go_simp
          refine hK.out _ _ (fun _ => ?_) (fun hE => ?_)
          · exact HQ9.out _ (by first | exact hs.kp | exact hs.drew.kp)
          have hS := hE (by kernel_rfl)
          clear hK K hE
          try simp only [Act.put, List.setIfInBounds_toArray, List.set_cons_zero, List.set_cons_succ]
          refine wpAnyT_ready (rs := [2, 6]) (by kernel_rfl) rfl ?_
          refine AllT.cons (o := { dst := some 60, op := Op.call { callee := Callee.value (Operand.func 9), args := #[Operand.tmp 58, Operand.tmp 59], argTypes := #[25, 24] }, type := 24, pos := "types.go:322", after := #[⟨0, .data⟩, ⟨1, .data⟩], guard := none }) rfl (fun K hK => ?_) ?_
          · (go_simp; go_at_call 9; with_reducible refine (HA1.out _ (by first | exact hs.kp | exact hs.drew.kp)).mono ?_; rintro e wp ⟨Ax, cx, rfl, hT, hk⟩; (first | replace hs := hs.callx hT hk | replace hs := hs.drew.callx hT hk); clear hT hk; go_wp2_with fail)
            refine hK.out _ _ (fun _ => ?_) (fun hE => ?_)
            · exact HQ9.out _ (by first | exact hs.kp | exact hs.drew.kp)
            have hS := hE (by kernel_rfl)
            clear hK K hE
            try simp only [Act.put, List.setIfInBounds_toArray, List.set_cons_zero, List.set_cons_succ]
            refine wpAnyT_ready (rs := [5, 6]) (by kernel_rfl) rfl ?_
            refine AllT.cons (o := { dst := some 63, op := Op.call { callee := Callee.value (Operand.func 9), args := #[Operand.tmp 61, Operand.tmp 62], argTypes := #[25, 24] }, type := 24, pos := "types.go:322", after := #[⟨3, .data⟩, ⟨4, .data⟩, ⟨2, .chain⟩], guard := none }) rfl (fun K hK => ?_) ?_
            · (go_simp; go_at_call 9; with_reducible refine (HA2.out _ (by first | exact hs.kp | exact hs.drew.kp)).mono ?_; rintro e wr ⟨Ay, cy, rfl, hT, hk⟩; (first | replace hs := hs.cally hT hk | replace hs := hs.drew.cally hT hk); clear hT hk; go_wp2_with fail)
              refine hK.out _ _ (fun _ => ?_) (fun hE => ?_)
              · exact HQ9.out _ (by first | exact hs.kp | exact hs.drew.kp)
              have hS := hE (by kernel_rfl)
              clear hK K hE
              try simp only [Act.put, List.setIfInBounds_toArray, List.set_cons_zero, List.set_cons_succ]
              refine wpAnyT_ready (rs := [6]) (by kernel_rfl) rfl ?_
              refine AllT.cons (o := { dst := some 11, op := Op.alloc 24, type := 0, pos := "types.go:322", after := #[], guard := none }) rfl (fun K hK => ?_) ?_
              · (go_simp; refine name_world ?_; intro wz6 hw; (first | replace hs := hs.box6 hw | replace hs := hs.drew.box6 hw | replace hs := hs.box6d hw | replace hs := hs.drew.box6d hw); (try rw [drew_size] at hs); clear hw)
                refine hK.out _ _ (fun _ => ?_) (fun hE => ?_)
                · exact HQ9.out _ (by first | exact hs.kp | exact hs.drew.kp)
                have hS := hE (by kernel_rfl)
                clear hK K hE
                try simp only [Act.put, List.setIfInBounds_toArray, List.set_cons_zero, List.set_cons_succ]
                refine wpAnyT_ready (rs := [8]) (by kernel_rfl) rfl ?_
                refine AllT.cons (o := { dst := none, op := Op.store 24 (Operand.tmp 11) (Operand.tmp 60), type := 0, pos := "types.go:322", after := #[⟨6, .data⟩, ⟨2, .data⟩, ⟨5, .chain⟩, ⟨0, .phase⟩, ⟨1, .phase⟩, ⟨2, .phase⟩, ⟨3, .textOnly .lateStores⟩, ⟨4, .textOnly .lateStores⟩, ⟨5, .textOnly .lateStoresUnsure⟩, ⟨6, .phase⟩, ⟨7, .phase⟩], guard := none }) rfl (fun K hK => ?_) ?_
                · (obtain ⟨hB6, -⟩ := hs.b6 _ rfl; have r0 := hB6.cell (i := 0) rfl; have r1 := hB6.cell (i := 1) rfl; have r2 := hB6.cell (i := 2) rfl; have r3 := hB6.cell (i := 3) rfl; have f0 := hB6.free 0; have f1 := hB6.free 1; have f2 := hB6.free 2; have f3 := hB6.free 3; go_simp)
                  refine hK.out _ _ (fun he => nof he) (fun hE => ?_)
                  clear hK K hE
                  try simp only [Act.put, List.setIfInBounds_toArray, List.set_cons_zero, List.set_cons_succ]
                  refine wpAnyT_ready (rs := [9]) (by kernel_rfl) rfl ?_
                  refine AllT.cons (o := { dst := none, op := Op.store 24 (Operand.tmp 12) (Operand.tmp 63), type := 0, pos := "types.go:322", after := #[⟨7, .data⟩, ⟨5, .data⟩, ⟨8, .chain⟩, ⟨0, .phase⟩, ⟨1, .phase⟩, ⟨2, .phase⟩, ⟨3, .phase⟩, ⟨4, .phase⟩, ⟨5, .phase⟩, ⟨6, .phase⟩, ⟨7, .phase⟩, ⟨8, .phase⟩], guard := none }) rfl (fun K hK => ?_) ?_
                  · (obtain ⟨hB6, -⟩ := hs.b6 _ rfl; obtain ⟨hB7, -⟩ := hs.b7 _ rfl; obtain ⟨-, hK6⟩ := four (show Blk _ _ _ [_, _, _, _] from hB6) (.int .i64 x.kind) (.string x.name) (.int .i64 x.var) (.slice Ax x.args.length cx); have hB7s := hB7.keeps hK6 (fun e => hs.ne _ _ rfl rfl e.symm); have q0 := hB7s.cell (i := 0) rfl; have q1 := hB7s.cell (i := 1) rfl; have q2 := hB7s.cell (i := 2) rfl; have q3 := hB7s.cell (i := 3) rfl; have h0 := hB7s.free 0; have h1 := hB7s.free 1; have h2 := hB7s.free 2; have h3 := hB7s.free 3; go_simp)
                    refine hK.out _ _ (fun he => nof he) (fun hE => ?_)
                    clear hK K hE
                    try simp only [Act.put, List.setIfInBounds_toArray, List.set_cons_zero, List.set_cons_succ]
                    refine wpAnyT_done (by kernel_rfl) ?_ _
                    refine NoPanic.normal ?_
                    go_wp2_with fail
                    go_meet
                    exact ⟨_, _, Ax, cx, Ay, cy, rfl, rfl, hs.fin rfl⟩
                  exact AllT.nil
                exact AllT.nil
              exact AllT.nil
            refine AllT.cons (o := { dst := some 11, op := Op.alloc 24, type := 0, pos := "types.go:322", after := #[], guard := none }) rfl (fun K hK => ?_) ?_
            · (go_simp; refine name_world ?_; intro wz6 hw; (first | replace hs := hs.box6 hw | replace hs := hs.drew.box6 hw | replace hs := hs.box6d hw | replace hs := hs.drew.box6d hw); (try rw [drew_size] at hs); clear hw)
              refine hK.out _ _ (fun _ => ?_) (fun hE => ?_)
              · exact HQ9.out _ (by first | exact hs.kp | exact hs.drew.kp)
              have hS := hE (by kernel_rfl)
              clear hK K hE
              try simp only [Act.put, List.setIfInBounds_toArray, List.set_cons_zero, List.set_cons_succ]
              refine wpAnyT_ready (rs := [5]) (by kernel_rfl) rfl ?_
              refine AllT.cons (o := { dst := some 63, op := Op.call { callee := Callee.value (Operand.func 9), args := #[Operand.tmp 61, Operand.tmp 62], argTypes := #[25, 24] }, type := 24, pos := "types.go:322", after := #[⟨3, .data⟩, ⟨4, .data⟩, ⟨2, .chain⟩], guard := none }) rfl (fun K hK => ?_) ?_
              · (go_simp; go_at_call 9; with_reducible refine (HA2.out _ (by first | exact hs.kp | exact hs.drew.kp)).mono ?_; rintro e wr ⟨Ay, cy, rfl, hT, hk⟩; (first | replace hs := hs.cally hT hk | replace hs := hs.drew.cally hT hk); clear hT hk; go_wp2_with fail)
                refine hK.out _ _ (fun _ => ?_) (fun hE => ?_)
                · exact HQ9.out _ (by first | exact hs.kp | exact hs.drew.kp)
                have hS := hE (by kernel_rfl)
                clear hK K hE
                try simp only [Act.put, List.setIfInBounds_toArray, List.set_cons_zero, List.set_cons_succ]
                refine wpAnyT_ready (rs := [8]) (by kernel_rfl) rfl ?_
                refine AllT.cons (o := { dst := none, op := Op.store 24 (Operand.tmp 11) (Operand.tmp 60), type := 0, pos := "types.go:322", after := #[⟨6, .data⟩, ⟨2, .data⟩, ⟨5, .chain⟩, ⟨0, .phase⟩, ⟨1, .phase⟩, ⟨2, .phase⟩, ⟨3, .textOnly .lateStores⟩, ⟨4, .textOnly .lateStores⟩, ⟨5, .textOnly .lateStoresUnsure⟩, ⟨6, .phase⟩, ⟨7, .phase⟩], guard := none }) rfl (fun K hK => ?_) ?_
                · (obtain ⟨hB6, -⟩ := hs.b6 _ rfl; have r0 := hB6.cell (i := 0) rfl; have r1 := hB6.cell (i := 1) rfl; have r2 := hB6.cell (i := 2) rfl; have r3 := hB6.cell (i := 3) rfl; have f0 := hB6.free 0; have f1 := hB6.free 1; have f2 := hB6.free 2; have f3 := hB6.free 3; go_simp)
                  refine hK.out _ _ (fun he => nof he) (fun hE => ?_)
                  clear hK K hE
                  try simp only [Act.put, List.setIfInBounds_toArray, List.set_cons_zero, List.set_cons_succ]
                  refine wpAnyT_ready (rs := [9]) (by kernel_rfl) rfl ?_
                  refine AllT.cons (o := { dst := none, op := Op.store 24 (Operand.tmp 12) (Operand.tmp 63), type := 0, pos := "types.go:322", after := #[⟨7, .data⟩, ⟨5, .data⟩, ⟨8, .chain⟩, ⟨0, .phase⟩, ⟨1, .phase⟩, ⟨2, .phase⟩, ⟨3, .phase⟩, ⟨4, .phase⟩, ⟨5, .phase⟩, ⟨6, .phase⟩, ⟨7, .phase⟩, ⟨8, .phase⟩], guard := none }) rfl (fun K hK => ?_) ?_
                  · (obtain ⟨hB6, -⟩ := hs.b6 _ rfl; obtain ⟨hB7, -⟩ := hs.b7 _ rfl; obtain ⟨-, hK6⟩ := four (show Blk _ _ _ [_, _, _, _] from hB6) (.int .i64 x.kind) (.string x.name) (.int .i64 x.var) (.slice Ax x.args.length cx); have hB7s := hB7.keeps hK6 (fun e => hs.ne _ _ rfl rfl e.symm); have q0 := hB7s.cell (i := 0) rfl; have q1 := hB7s.cell (i := 1) rfl; have q2 := hB7s.cell (i := 2) rfl; have q3 := hB7s.cell (i := 3) rfl; have h0 := hB7s.free 0; have h1 := hB7s.free 1; have h2 := hB7s.free 2; have h3 := hB7s.free 3; go_simp)
                    refine hK.out _ _ (fun he => nof he) (fun hE => ?_)
                    clear hK K hE
                    try simp only [Act.put, List.setIfInBounds_toArray, List.set_cons_zero, List.set_cons_succ]
                    refine wpAnyT_done (by kernel_rfl) ?_ _
                    refine NoPanic.normal ?_
                    go_wp2_with fail
                    go_meet
                    exact ⟨_, _, Ax, cx, Ay, cy, rfl, rfl, hs.fin rfl⟩
                  exact AllT.nil
                exact AllT.nil
              exact AllT.nil
            exact AllT.nil
          refine AllT.cons (o := { dst := some 11, op := Op.alloc 24, type := 0, pos := "types.go:322", after := #[], guard := none }) rfl (fun K hK => ?_) ?_
          · (go_simp; refine name_world ?_; intro wz6 hw; (first | replace hs := hs.box6 hw | replace hs := hs.drew.box6 hw | replace hs := hs.box6d hw | replace hs := hs.drew.box6d hw); (try rw [drew_size] at hs); clear hw)
            refine hK.out _ _ (fun _ => ?_) (fun hE => ?_)
            · exact HQ9.out _ (by first | exact hs.kp | exact hs.drew.kp)
            have hS := hE (by kernel_rfl)
            clear hK K hE
            try simp only [Act.put, List.setIfInBounds_toArray, List.set_cons_zero, List.set_cons_succ]
            refine wpAnyT_ready (rs := [2]) (by kernel_rfl) rfl ?_
            refine AllT.cons (o := { dst := some 60, op := Op.call { callee := Callee.value (Operand.func 9), args := #[Operand.tmp 58, Operand.tmp 59], argTypes := #[25, 24] }, type := 24, pos := "types.go:322", after := #[⟨0, .data⟩, ⟨1, .data⟩], guard := none }) rfl (fun K hK => ?_) ?_
            · (go_simp; go_at_call 9; with_reducible refine (HA1.out _ (by first | exact hs.kp | exact hs.drew.kp)).mono ?_; rintro e wp ⟨Ax, cx, rfl, hT, hk⟩; (first | replace hs := hs.callx hT hk | replace hs := hs.drew.callx hT hk); clear hT hk; go_wp2_with fail)
              refine hK.out _ _ (fun _ => ?_) (fun hE => ?_)
              · exact HQ9.out _ (by first | exact hs.kp | exact hs.drew.kp)
              have hS := hE (by kernel_rfl)
              clear hK K hE
              try simp only [Act.put, List.setIfInBounds_toArray, List.set_cons_zero, List.set_cons_succ]
              refine wpAnyT_ready (rs := [5]) (by kernel_rfl) rfl ?_
              refine AllT.cons (o := { dst := some 63, op := Op.call { callee := Callee.value (Operand.func 9), args := #[Operand.tmp 61, Operand.tmp 62], argTypes := #[25, 24] }, type := 24, pos := "types.go:322", after := #[⟨3, .data⟩, ⟨4, .data⟩, ⟨2, .chain⟩], guard := none }) rfl (fun K hK => ?_) ?_
              · (go_simp; go_at_call 9; with_reducible refine (HA2.out _ (by first | exact hs.kp | exact hs.drew.kp)).mono ?_; rintro e wr ⟨Ay, cy, rfl, hT, hk⟩; (first | replace hs := hs.cally hT hk | replace hs := hs.drew.cally hT hk); clear hT hk; go_wp2_with fail)
                refine hK.out _ _ (fun _ => ?_) (fun hE => ?_)
                · exact HQ9.out _ (by first | exact hs.kp | exact hs.drew.kp)
                have hS := hE (by kernel_rfl)
                clear hK K hE
                try simp only [Act.put, List.setIfInBounds_toArray, List.set_cons_zero, List.set_cons_succ]
                refine wpAnyT_ready (rs := [8]) (by kernel_rfl) rfl ?_
                refine AllT.cons (o := { dst := none, op := Op.store 24 (Operand.tmp 11) (Operand.tmp 60), type := 0, pos := "types.go:322", after := #[⟨6, .data⟩, ⟨2, .data⟩, ⟨5, .chain⟩, ⟨0, .phase⟩, ⟨1, .phase⟩, ⟨2, .phase⟩, ⟨3, .textOnly .lateStores⟩, ⟨4, .textOnly .lateStores⟩, ⟨5, .textOnly .lateStoresUnsure⟩, ⟨6, .phase⟩, ⟨7, .phase⟩], guard := none }) rfl (fun K hK => ?_) ?_
                · (obtain ⟨hB6, -⟩ := hs.b6 _ rfl; have r0 := hB6.cell (i := 0) rfl; have r1 := hB6.cell (i := 1) rfl; have r2 := hB6.cell (i := 2) rfl; have r3 := hB6.cell (i := 3) rfl; have f0 := hB6.free 0; have f1 := hB6.free 1; have f2 := hB6.free 2; have f3 := hB6.free 3; go_simp)
                  refine hK.out _ _ (fun he => nof he) (fun hE => ?_)
                  clear hK K hE
                  try simp only [Act.put, List.setIfInBounds_toArray, List.set_cons_zero, List.set_cons_succ]
                  refine wpAnyT_ready (rs := [9]) (by kernel_rfl) rfl ?_
                  refine AllT.cons (o := { dst := none, op := Op.store 24 (Operand.tmp 12) (Operand.tmp 63), type := 0, pos := "types.go:322", after := #[⟨7, .data⟩, ⟨5, .data⟩, ⟨8, .chain⟩, ⟨0, .phase⟩, ⟨1, .phase⟩, ⟨2, .phase⟩, ⟨3, .phase⟩, ⟨4, .phase⟩, ⟨5, .phase⟩, ⟨6, .phase⟩, ⟨7, .phase⟩, ⟨8, .phase⟩], guard := none }) rfl (fun K hK => ?_) ?_
                  · (obtain ⟨hB6, -⟩ := hs.b6 _ rfl; obtain ⟨hB7, -⟩ := hs.b7 _ rfl; obtain ⟨-, hK6⟩ := four (show Blk _ _ _ [_, _, _, _] from hB6) (.int .i64 x.kind) (.string x.name) (.int .i64 x.var) (.slice Ax x.args.length cx); have hB7s := hB7.keeps hK6 (fun e => hs.ne _ _ rfl rfl e.symm); have q0 := hB7s.cell (i := 0) rfl; have q1 := hB7s.cell (i := 1) rfl; have q2 := hB7s.cell (i := 2) rfl; have q3 := hB7s.cell (i := 3) rfl; have h0 := hB7s.free 0; have h1 := hB7s.free 1; have h2 := hB7s.free 2; have h3 := hB7s.free 3; go_simp)
                    refine hK.out _ _ (fun he => nof he) (fun hE => ?_)
                    clear hK K hE
                    try simp only [Act.put, List.setIfInBounds_toArray, List.set_cons_zero, List.set_cons_succ]
                    refine wpAnyT_done (by kernel_rfl) ?_ _
                    refine NoPanic.normal ?_
                    go_wp2_with fail
                    go_meet
                    exact ⟨_, _, Ax, cx, Ay, cy, rfl, rfl, hs.fin rfl⟩
                  exact AllT.nil
                exact AllT.nil
              exact AllT.nil
            exact AllT.nil
          exact AllT.nil
        refine AllT.cons (o := { dst := some 11, op := Op.alloc 24, type := 0, pos := "types.go:322", after := #[], guard := none }) rfl (fun K hK => ?_) ?_
        · (go_simp; refine name_world ?_; intro wz6 hw; (first | replace hs := hs.box6 hw | replace hs := hs.drew.box6 hw | replace hs := hs.box6d hw | replace hs := hs.drew.box6d hw); (try rw [drew_size] at hs); clear hw)
          refine hK.out _ _ (fun _ => ?_) (fun hE => ?_)
          · exact HQ9.out _ (by first | exact hs.kp | exact hs.drew.kp)
          have hS := hE (by kernel_rfl)
          clear hK K hE
          try simp only [Act.put, List.setIfInBounds_toArray, List.set_cons_zero, List.set_cons_succ]
          refine wpAnyT_ready (rs := [2, 4]) (by kernel_rfl) rfl ?_
          refine AllT.cons (o := { dst := some 60, op := Op.call { callee := Callee.value (Operand.func 9), args := #[Operand.tmp 58, Operand.tmp 59], argTypes := #[25, 24] }, type := 24, pos := "types.go:322", after := #[⟨0, .data⟩, ⟨1, .data⟩], guard := none }) rfl (fun K hK => ?_) ?_
          · (go_simp; go_at_call 9; with_reducible refine (HA1.out _ (by first | exact hs.kp | exact hs.drew.kp)).mono ?_; rintro e wp ⟨Ax, cx, rfl, hT, hk⟩; (first | replace hs := hs.callx hT hk | replace hs := hs.drew.callx hT hk); clear hT hk; go_wp2_with fail)
            refine hK.out _ _ (fun _ => ?_) (fun hE => ?_)
            · exact HQ9.out _ (by first | exact hs.kp | exact hs.drew.kp)
            have hS := hE (by kernel_rfl)
            clear hK K hE
            try simp only [Act.put, List.setIfInBounds_toArray, List.set_cons_zero, List.set_cons_succ]
            refine wpAnyT_ready (rs := [4]) (by kernel_rfl) rfl ?_
            refine AllT.cons (o := { dst := some 62, op := Op.load 24 (Operand.tmp 3), type := 24, pos := "types.go:322", after := #[], guard := none }) rfl (fun K hK => ?_) ?_
            · go_simp
              refine hK.out _ _ (fun _ => ?_) (fun hE => ?_)
              · exact HQ9.out _ (by first | exact hs.kp | exact hs.drew.kp)
              have hS := hE (by kernel_rfl)
              clear hK K hE
              try simp only [Act.put, List.setIfInBounds_toArray, List.set_cons_zero, List.set_cons_succ]
              refine wpAnyT_ready (rs := [5]) (by kernel_rfl) rfl ?_
              refine AllT.cons (o := { dst := some 63, op := Op.call { callee := Callee.value (Operand.func 9), args := #[Operand.tmp 61, Operand.tmp 62], argTypes := #[25, 24] }, type := 24, pos := "types.go:322", after := #[⟨3, .data⟩, ⟨4, .data⟩, ⟨2, .chain⟩], guard := none }) rfl (fun K hK => ?_) ?_
              · (go_simp; go_at_call 9; with_reducible refine (HA2.out _ (by first | exact hs.kp | exact hs.drew.kp)).mono ?_; rintro e wr ⟨Ay, cy, rfl, hT, hk⟩; (first | replace hs := hs.cally hT hk | replace hs := hs.drew.cally hT hk); clear hT hk; go_wp2_with fail)
                refine hK.out _ _ (fun _ => ?_) (fun hE => ?_)
                · exact HQ9.out _ (by first | exact hs.kp | exact hs.drew.kp)
                have hS := hE (by kernel_rfl)
                clear hK K hE
                try simp only [Act.put, List.setIfInBounds_toArray, List.set_cons_zero, List.set_cons_succ]
                refine wpAnyT_ready (rs := [8]) (by kernel_rfl) rfl ?_
                refine AllT.cons (o := { dst := none, op := Op.store 24 (Operand.tmp 11) (Operand.tmp 60), type := 0, pos := "types.go:322", after := #[⟨6, .data⟩, ⟨2, .data⟩, ⟨5, .chain⟩, ⟨0, .phase⟩, ⟨1, .phase⟩, ⟨2, .phase⟩, ⟨3, .textOnly .lateStores⟩, ⟨4, .textOnly .lateStores⟩, ⟨5, .textOnly .lateStoresUnsure⟩, ⟨6, .phase⟩, ⟨7, .phase⟩], guard := none }) rfl (fun K hK => ?_) ?_
                · (obtain ⟨hB6, -⟩ := hs.b6 _ rfl; have r0 := hB6.cell (i := 0) rfl; have r1 := hB6.cell (i := 1) rfl; have r2 := hB6.cell (i := 2) rfl; have r3 := hB6.cell (i := 3) rfl; have f0 := hB6.free 0; have f1 := hB6.free 1; have f2 := hB6.free 2; have f3 := hB6.free 3; go_simp)
                  refine hK.out _ _ (fun he => nof he) (fun hE => ?_)
                  clear hK K hE
                  try simp only [Act.put, List.setIfInBounds_toArray, List.set_cons_zero, List.set_cons_succ]
                  refine wpAnyT_ready (rs := [9]) (by kernel_rfl) rfl ?_
                  refine AllT.cons (o := { dst := none, op := Op.store 24 (Operand.tmp 12) (Operand.tmp 63), type := 0, pos := "types.go:322", after := #[⟨7, .data⟩, ⟨5, .data⟩, ⟨8, .chain⟩, ⟨0, .phase⟩, ⟨1, .phase⟩, ⟨2, .phase⟩, ⟨3, .phase⟩, ⟨4, .phase⟩, ⟨5, .phase⟩, ⟨6, .phase⟩, ⟨7, .phase⟩, ⟨8, .phase⟩], guard := none }) rfl (fun K hK => ?_) ?_
                  · (obtain ⟨hB6, -⟩ := hs.b6 _ rfl; obtain ⟨hB7, -⟩ := hs.b7 _ rfl; obtain ⟨-, hK6⟩ := four (show Blk _ _ _ [_, _, _, _] from hB6) (.int .i64 x.kind) (.string x.name) (.int .i64 x.var) (.slice Ax x.args.length cx); have hB7s := hB7.keeps hK6 (fun e => hs.ne _ _ rfl rfl e.symm); have q0 := hB7s.cell (i := 0) rfl; have q1 := hB7s.cell (i := 1) rfl; have q2 := hB7s.cell (i := 2) rfl; have q3 := hB7s.cell (i := 3) rfl; have h0 := hB7s.free 0; have h1 := hB7s.free 1; have h2 := hB7s.free 2; have h3 := hB7s.free 3; go_simp)
                    refine hK.out _ _ (fun he => nof he) (fun hE => ?_)
                    clear hK K hE
                    try simp only [Act.put, List.setIfInBounds_toArray, List.set_cons_zero, List.set_cons_succ]
                    refine wpAnyT_done (by kernel_rfl) ?_ _
                    refine NoPanic.normal ?_
                    go_wp2_with fail
                    go_meet
                    exact ⟨_, _, Ax, cx, Ay, cy, rfl, rfl, hs.fin rfl⟩
                  exact AllT.nil
                exact AllT.nil
              exact AllT.nil
            exact AllT.nil
          refine AllT.cons (o := { dst := some 62, op := Op.load 24 (Operand.tmp 3), type := 24, pos := "types.go:322", after := #[], guard := none }) rfl (fun K hK => ?_) ?_
          · go_simp
            refine hK.out _ _ (fun _ => ?_) (fun hE => ?_)
            · exact HQ9.out _ (by first | exact hs.kp | exact hs.drew.kp)
            have hS := hE (by kernel_rfl)
            clear hK K hE
            try simp only [Act.put, List.setIfInBounds_toArray, List.set_cons_zero, List.set_cons_succ]
            refine wpAnyT_ready (rs := [2]) (by kernel_rfl) rfl ?_
            refine AllT.cons (o := { dst := some 60, op := Op.call { callee := Callee.value (Operand.func 9), args := #[Operand.tmp 58, Operand.tmp 59], argTypes := #[25, 24] }, type := 24, pos := "types.go:322", after := #[⟨0, .data⟩, ⟨1, .data⟩], guard := none }) rfl (fun K hK => ?_) ?_
            · (go_simp; go_at_call 9; with_reducible refine (HA1.out _ (by first | exact hs.kp | exact hs.drew.kp)).mono ?_; rintro e wp ⟨Ax, cx, rfl, hT, hk⟩; (first | replace hs := hs.callx hT hk | replace hs := hs.drew.callx hT hk); clear hT hk; go_wp2_with fail)
              refine hK.out _ _ (fun _ => ?_) (fun hE => ?_)
              · exact HQ9.out _ (by first | exact hs.kp | exact hs.drew.kp)
              have hS := hE (by kernel_rfl)
              clear hK K hE
              try simp only [Act.put, List.setIfInBounds_toArray, List.set_cons_zero, List.set_cons_succ]
              refine wpAnyT_ready (rs := [5]) (by kernel_rfl) rfl ?_
              refine AllT.cons (o := { dst := some 63, op := Op.call { callee := Callee.value (Operand.func 9), args := #[Operand.tmp 61, Operand.tmp 62], argTypes := #[25, 24] }, type := 24, pos := "types.go:322", after := #[⟨3, .data⟩, ⟨4, .data⟩, ⟨2, .chain⟩], guard := none }) rfl (fun K hK => ?_) ?_
              · (go_simp; go_at_call 9; with_reducible refine (HA2.out _ (by first | exact hs.kp | exact hs.drew.kp)).mono ?_; rintro e wr ⟨Ay, cy, rfl, hT, hk⟩; (first | replace hs := hs.cally hT hk | replace hs := hs.drew.cally hT hk); clear hT hk; go_wp2_with fail)
                refine hK.out _ _ (fun _ => ?_) (fun hE => ?_)
                · exact HQ9.out _ (by first | exact hs.kp | exact hs.drew.kp)
                have hS := hE (by kernel_rfl)
                clear hK K hE
                try simp only [Act.put, List.setIfInBounds_toArray, List.set_cons_zero, List.set_cons_succ]
                refine wpAnyT_ready (rs := [8]) (by kernel_rfl) rfl ?_
                refine AllT.cons (o := { dst := none, op := Op.store 24 (Operand.tmp 11) (Operand.tmp 60), type := 0, pos := "types.go:322", after := #[⟨6, .data⟩, ⟨2, .data⟩, ⟨5, .chain⟩, ⟨0, .phase⟩, ⟨1, .phase⟩, ⟨2, .phase⟩, ⟨3, .textOnly .lateStores⟩, ⟨4, .textOnly .lateStores⟩, ⟨5, .textOnly .lateStoresUnsure⟩, ⟨6, .phase⟩, ⟨7, .phase⟩], guard := none }) rfl (fun K hK => ?_) ?_
                · (obtain ⟨hB6, -⟩ := hs.b6 _ rfl; have r0 := hB6.cell (i := 0) rfl; have r1 := hB6.cell (i := 1) rfl; have r2 := hB6.cell (i := 2) rfl; have r3 := hB6.cell (i := 3) rfl; have f0 := hB6.free 0; have f1 := hB6.free 1; have f2 := hB6.free 2; have f3 := hB6.free 3; go_simp)
                  refine hK.out _ _ (fun he => nof he) (fun hE => ?_)
                  clear hK K hE
                  try simp only [Act.put, List.setIfInBounds_toArray, List.set_cons_zero, List.set_cons_succ]
                  refine wpAnyT_ready (rs := [9]) (by kernel_rfl) rfl ?_
                  refine AllT.cons (o := { dst := none, op := Op.store 24 (Operand.tmp 12) (Operand.tmp 63), type := 0, pos := "types.go:322", after := #[⟨7, .data⟩, ⟨5, .data⟩, ⟨8, .chain⟩, ⟨0, .phase⟩, ⟨1, .phase⟩, ⟨2, .phase⟩, ⟨3, .phase⟩, ⟨4, .phase⟩, ⟨5, .phase⟩, ⟨6, .phase⟩, ⟨7, .phase⟩, ⟨8, .phase⟩], guard := none }) rfl (fun K hK => ?_) ?_
                  · (obtain ⟨hB6, -⟩ := hs.b6 _ rfl; obtain ⟨hB7, -⟩ := hs.b7 _ rfl; obtain ⟨-, hK6⟩ := four (show Blk _ _ _ [_, _, _, _] from hB6) (.int .i64 x.kind) (.string x.name) (.int .i64 x.var) (.slice Ax x.args.length cx); have hB7s := hB7.keeps hK6 (fun e => hs.ne _ _ rfl rfl e.symm); have q0 := hB7s.cell (i := 0) rfl; have q1 := hB7s.cell (i := 1) rfl; have q2 := hB7s.cell (i := 2) rfl; have q3 := hB7s.cell (i := 3) rfl; have h0 := hB7s.free 0; have h1 := hB7s.free 1; have h2 := hB7s.free 2; have h3 := hB7s.free 3; go_simp)
                    refine hK.out _ _ (fun he => nof he) (fun hE => ?_)
                    clear hK K hE
                    try simp only [Act.put, List.setIfInBounds_toArray, List.set_cons_zero, List.set_cons_succ]
                    refine wpAnyT_done (by kernel_rfl) ?_ _
                    refine NoPanic.normal ?_
                    go_wp2_with fail
                    go_meet
                    exact ⟨_, _, Ax, cx, Ay, cy, rfl, rfl, hs.fin rfl⟩
                  exact AllT.nil
                exact AllT.nil
              exact AllT.nil
            exact AllT.nil
          exact AllT.nil
        exact AllT.nil
      exact AllT.nil
    case rest =>
      obtain ⟨g1, g2, Ax, cx, Ay, cy, rfl, rfl, hbx, hby, hTx, hTy, hk6⟩ := hcut
      obtain ⟨w6, hw6⟩ : ∃ w6, w6 = wc := ⟨_, rfl⟩
      rw [← hw6] at hbx hby hTx hTy hk6 ⊢
      clear hw6
      have HBx := Lib.hid hbx
      have HBy := Lib.hid hby
      have HTx := Lib.hid hTx
      have HTy := Lib.hid hTy
      have HK6 := Lib.hid hk6
      obtain ⟨ra0, ra1, ra2, ra3, rb0, rb1, rb2, rb3⟩ := HQ9.out w6 hk6
      clear hbx hby hTx hTy hk6
      go_wp2_with fail
      with_reducible refine (HU2.out _ HK6.out _ (Keeps.refl _ _)).mono ?_
      rintro e w7 ⟨hk7, h7⟩
      rcases h7 with ⟨h7, _⟩ | ⟨_, g7, c7, rfl, hS7⟩
      · exact absurd rfl h7
      have hbx := HBx.out.keeps hk7 (fun h => h)
      have hby := HBy.out.keeps hk7 (fun h => h)
      have HQ12 : Hid (∀ X, Keeps (fun _ => False) w7 X → (X.cell? ⟨g1, 0, none⟩ = some (.int .i64 x.kind) ∧ X.cell? ⟨g1, 1, none⟩ = some (.string x.name) ∧ X.cell? ⟨g1, 2, none⟩ = some (.int .i64 x.var) ∧ X.cell? ⟨g1, 3, none⟩ = some (.slice Ax x.args.length cx) ∧ X.cell? ⟨g2, 0, none⟩ = some (.int .i64 y.kind) ∧ X.cell? ⟨g2, 1, none⟩ = some (.string y.name) ∧ X.cell? ⟨g2, 2, none⟩ = some (.int .i64 y.var) ∧ X.cell? ⟨g2, 3, none⟩ = some (.slice Ay y.args.length cy))) := fun X hk => ⟨hk.cell (hbx.cell (i := 0) rfl) (fun h => h), hk.cell (hbx.cell (i := 1) rfl) (fun h => h), hk.cell (hbx.cell (i := 2) rfl) (fun h => h), hk.cell (hbx.cell (i := 3) rfl) (fun h => h), hk.cell (hby.cell (i := 0) rfl) (fun h => h), hk.cell (hby.cell (i := 1) rfl) (fun h => h), hk.cell (hby.cell (i := 2) rfl) (fun h => h), hk.cell (hby.cell (i := 3) rfl) (fun h => h)⟩
      have HTx7 := Lib.hid (tyc_all HTx.out hk7)
      have HTy7 := Lib.hid (tyc_all HTy.out hk7)
      have HK7 := Lib.hid (HK6.out.trans hk7 (fun _ _ h => h))
      have hln : (((L1 : Nat) : Int) == ((L1 : Nat) : Int)) = true := by simp
      have hkc := HK7.out
      have hTx := HTx7.out
      have hTy := HTy7.out
      clear hbx hby hk7 hS7 ra0 ra1 ra2 ra3 rb0 rb1 rb2 rb3
      go_wp2_with fail
      have hkd : Keeps (fun _ => False) w7 w7 := Keeps.refl _ _
      refine wp_region_noPanic ?_
      refine wp_region_till [] (fun X => X.cell? ⟨g1, 0, none⟩ = some (.int .i64 x.kind) ∧ X.cell? ⟨g1, 1, none⟩ = some (.string x.name) ∧ X.cell? ⟨g1, 2, none⟩ = some (.int .i64 x.var) ∧ X.cell? ⟨g1, 3, none⟩ = some (.slice Ax x.args.length cx) ∧ X.cell? ⟨g2, 0, none⟩ = some (.int .i64 y.kind) ∧ X.cell? ⟨g2, 1, none⟩ = some (.string y.name) ∧ X.cell? ⟨g2, 2, none⟩ = some (.int .i64 y.var) ∧ X.cell? ⟨g2, 3, none⟩ = some (.slice Ay y.args.length cy)) (by kernel_rfl) ?_ (fun hE => ?_)
      · exact (by first | exact HQ12.out _ (Keeps.refl _ _) | exact HQ12.out _ hkd | exact HQ12.out _ hkd.drew | exact HQ12.out _ (Keeps.refl _ _).drew)
      have hS := hE (by kernel_rfl)
      refine wpAnyT_take (i := 0) (oi := { dst := some 71, op := Op.load 24 (Operand.tmp 11), type := 24, pos := "types.go:324", after := #[], guard := none }) (v := ?v12_0_1) rfl (by kernel_rfl) (fun _ _ _ h => h) (Or.inl ⟨by rfl, ?y12_0_1⟩) hS ?_
      case y12_0_1 => (intro w hSw; (try dsimp only at hSw); go_simp; try with_reducible rfl)
      try simp only [Act.put, List.setIfInBounds_toArray, List.set_cons_zero, List.set_cons_succ]
      refine wpAnyT_take (i := 1) (oi := { dst := some 72, op := Op.load 24 (Operand.tmp 12), type := 24, pos := "types.go:324", after := #[], guard := none }) (v := ?v12_1_2) rfl (by kernel_rfl) (fun _ _ _ h => h) (Or.inl ⟨by rfl, ?y12_1_2⟩) hS ?_
      case y12_1_2 => (intro w hSw; (try dsimp only at hSw); go_simp; try with_reducible rfl)
      try simp only [Act.put, List.setIfInBounds_toArray, List.set_cons_zero, List.set_cons_succ]
      refine wpAnyT_ready (rs := [2]) (by kernel_rfl) rfl ?_
      refine AllT.cons (o := { dst := some 73, op := Op.call { callee := Callee.value (Operand.func 12), args := #[Operand.tmp 71, Operand.tmp 72], argTypes := #[24, 24] }, type := 4, pos := "types.go:324", after := #[⟨0, .data⟩, ⟨1, .data⟩], guard := none }) rfl (fun K hK => ?_) ?_
      · (go_simp; go_at_call 12; with_reducible refine (HS1.out _ _ _ _ _ hTx hTy _ (by first | exact Keeps.refl _ _ | exact (Keeps.refl _ _).drew)).mono ?_; rintro e ws ⟨rfl, hk⟩; replace hkc := hkc.trans hk (fun _ _ h => h); replace hkd := hkd.trans hk (fun _ _ h => h); replace hTx := tyc_all hTx hk; clear hk hTy; go_wp2_with fail)
        refine hK.out _ _ (fun _ => ?_) (fun hE => ?_)
        · exact (by first | exact HQ12.out _ (Keeps.refl _ _) | exact HQ12.out _ hkd | exact HQ12.out _ hkd.drew | exact HQ12.out _ (Keeps.refl _ _).drew)
        have hS := hE (by kernel_rfl)
        clear hK K hE
        try simp only [Act.put, List.setIfInBounds_toArray, List.set_cons_zero, List.set_cons_succ]
        refine wpAnyT_pure (i := 3) (oi := { dst := some 74, op := Op.move (Operand.tmp 73), type := 4, pos := "types.go:324", after := #[⟨2, .data⟩, ⟨2, .chain⟩], guard := none }) (v := ?v12_3_3) rfl (by kernel_rfl) (fun _ _ _ h => h) (Or.inl ⟨by rfl, ?y12_3_3⟩) (fun _ => hS) ?_
        case y12_3_3 => (intro w hSw; go_simp; try with_reducible rfl)
        try simp only [Act.put, List.setIfInBounds_toArray, List.set_cons_zero, List.set_cons_succ]
        refine wpAnyT_pure (i := 4) (oi := { dst := some 75, op := Op.move (Operand.tmp 9), type := 25, pos := "types.go:324", after := #[⟨3, .guard⟩], guard := some (3, true) }) (v := ?v12_4_4) rfl (by kernel_rfl) (fun _ _ _ h => h) (Or.inl ⟨by rfl, ?y12_4_4⟩) (fun _ => hS) ?_
        case y12_4_4 => (intro w hSw; go_simp; try with_reducible rfl)
        try simp only [Act.put, List.setIfInBounds_toArray, List.set_cons_zero, List.set_cons_succ]
        refine wpAnyT_take (i := 5) (oi := { dst := some 76, op := Op.load 24 (Operand.tmp 11), type := 24, pos := "types.go:324", after := #[⟨3, .guard⟩], guard := some (3, true) }) (v := ?v12_5_5) rfl (by kernel_rfl) (fun _ _ _ h => h) (Or.inl ⟨by rfl, ?y12_5_5⟩) hS ?_
        case y12_5_5 => (intro w hSw; (try dsimp only at hSw); go_simp; try with_reducible rfl)
        try simp only [Act.put, List.setIfInBounds_toArray, List.set_cons_zero, List.set_cons_succ]
        refine wpAnyT_take (i := 7) (oi := { dst := some 78, op := Op.load 24 (Operand.tmp 11), type := 24, pos := "types.go:324", after := #[⟨3, .guard⟩], guard := some (3, true) }) (v := ?v12_7_6) rfl (by kernel_rfl) (fun _ _ _ h => h) (Or.inl ⟨by rfl, ?y12_7_6⟩) hS ?_
        case y12_7_6 => (intro w hSw; (try dsimp only at hSw); go_simp; try with_reducible rfl)
        try simp only [Act.put, List.setIfInBounds_toArray, List.set_cons_zero, List.set_cons_succ]
        refine wpAnyT_ready (rs := [6]) (by kernel_rfl) rfl ?_
        refine AllT.cons (o := { dst := some 77, op := Op.call { callee := Callee.value (Operand.func 9), args := #[Operand.tmp 75, Operand.tmp 76], argTypes := #[25, 24] }, type := 24, pos := "types.go:324", after := #[⟨4, .data⟩, ⟨5, .data⟩, ⟨3, .chain⟩, ⟨3, .guard⟩], guard := some (3, true) }) rfl (fun K hK => ?_) ?_
        · (rw [if_pos (by rfl)]; (go_simp; go_at_call 9; with_reducible refine (HA3.out _ hkc _ _ hTx _ (by first | exact Keeps.refl _ _ | exact (Keeps.refl _ _).drew)).mono ?_; rintro e wa ⟨Ar, cr, rfl, hTr, hk⟩; replace hkc := hkc.trans hk (fun _ _ h => h); replace hkd := hkd.trans hk (fun _ _ h => h); replace hTx := tyc_all hTx hk; clear hk; go_wp2_with fail))
          refine hK.out _ _ (fun _ => ?_) (fun hE => ?_)
          · exact (by first | exact HQ12.out _ (Keeps.refl _ _) | exact HQ12.out _ hkd | exact HQ12.out _ hkd.drew | exact HQ12.out _ (Keeps.refl _ _).drew)
          have hS := hE (by kernel_rfl)
          clear hK K hE
          try simp only [Act.put, List.setIfInBounds_toArray, List.set_cons_zero, List.set_cons_succ]
          refine wpAnyT_ready (rs := [8]) (by kernel_rfl) rfl ?_
          refine AllT.cons (o := { dst := some 79, op := Op.call { callee := Callee.value (Operand.func 12), args := #[Operand.tmp 77, Operand.tmp 78], argTypes := #[24, 24] }, type := 4, pos := "types.go:324", after := #[⟨6, .data⟩, ⟨7, .data⟩, ⟨6, .chain⟩, ⟨3, .guard⟩], guard := some (3, true) }) rfl (fun K hK => ?_) ?_
          · (rw [if_pos (by rfl)]; (go_simp; go_at_call 12; with_reducible refine (HS2.out _ _ _ _ _ hTr hTx _ (by first | exact Keeps.refl _ _ | exact (Keeps.refl _ _).drew)).mono ?_; rintro e wt ⟨rfl, hk⟩; replace hkc := hkc.trans hk (fun _ _ h => h); replace hkd := hkd.trans hk (fun _ _ h => h); replace hTx := tyc_all hTx hk; clear hk hTr; go_wp2_with fail))
            refine hK.out _ _ (fun _ => ?_) (fun hE => ?_)
            · exact (by first | exact HQ12.out _ (Keeps.refl _ _) | exact HQ12.out _ hkd | exact HQ12.out _ hkd.drew | exact HQ12.out _ (Keeps.refl _ _).drew)
            have hS := hE (by kernel_rfl)
            clear hK K hE
            try simp only [Act.put, List.setIfInBounds_toArray, List.set_cons_zero, List.set_cons_succ]
            refine wpAnyT_pure (i := 9) (oi := { dst := some 80, op := Op.pick (Operand.tmp 74) (Operand.tmp 79) (Operand.const (Value.bool false)), type := 4, pos := "types.go:324", after := #[⟨3, .data⟩, ⟨8, .data⟩], guard := none }) (v := ?v12_9_7) rfl (by kernel_rfl) (fun _ _ _ h => h) (Or.inl ⟨by rfl, ?y12_9_7⟩) (fun _ => hS) ?_
            case y12_9_7 => (intro w hSw; go_simp; try with_reducible rfl)
            try simp only [Act.put, List.setIfInBounds_toArray, List.set_cons_zero, List.set_cons_succ]
            refine wpAnyT_pure (i := 10) (oi := { dst := some 81, op := Op.move (Operand.tmp 80), type := 4, pos := "types.go:324", after := #[⟨9, .data⟩, ⟨8, .chain⟩], guard := none }) (v := ?v12_10_8) rfl (by kernel_rfl) (fun _ _ _ h => h) (Or.inl ⟨by rfl, ?y12_10_8⟩) (fun _ => hS) ?_
            case y12_10_8 => (intro w hSw; go_simp; try with_reducible rfl)
            try simp only [Act.put, List.setIfInBounds_toArray, List.set_cons_zero, List.set_cons_succ]
            refine wpAnyT_pure (i := 11) (oi := { dst := some 82, op := Op.move (Operand.tmp 10), type := 28, pos := "types.go:324", after := #[⟨10, .guard⟩], guard := some (10, true) }) (v := ?v12_11_9) rfl (by kernel_rfl) (fun _ _ _ h => h) (Or.inl ⟨by rfl, ?y12_11_9⟩) (fun _ => hS) ?_
            case y12_11_9 => (intro w hSw; go_simp; try with_reducible rfl)
            try simp only [Act.put, List.setIfInBounds_toArray, List.set_cons_zero, List.set_cons_succ]
            refine wpAnyT_pure (i := 12) (oi := { dst := some 83, op := Op.binOp BinOp.eql 28 (Operand.tmp 82) (Operand.const (Value.int IntKind.i64 0)) 28, type := 4, pos := "types.go:324", after := #[⟨11, .data⟩, ⟨10, .guard⟩], guard := some (10, true) }) (v := ?v12_12_10) rfl (by kernel_rfl) (fun _ _ _ h => h) (Or.inl ⟨by rfl, ?y12_12_10⟩) (fun _ => hS) ?_
            case y12_12_10 => (intro w hSw; go_simp; try with_reducible rfl)
            try simp only [Act.put, List.setIfInBounds_toArray, List.set_cons_zero, List.set_cons_succ]
            refine wpAnyT_pure (i := 13) (oi := { dst := some 84, op := Op.pick (Operand.tmp 81) (Operand.tmp 83) (Operand.const (Value.bool false)), type := 4, pos := "types.go:324", after := #[⟨10, .data⟩, ⟨12, .data⟩], guard := none }) (v := ?v12_13_11) rfl (by kernel_rfl) (fun _ _ _ h => h) (Or.inl ⟨by rfl, ?y12_13_11⟩) (fun _ => hS) ?_
            case y12_13_11 => (intro w hSw; go_simp; try with_reducible rfl)
            try simp only [Act.put, List.setIfInBounds_toArray, List.set_cons_zero, List.set_cons_succ]
            refine wpAnyT_pure (i := 14) (oi := { dst := some 85, op := Op.move (Operand.tmp 84), type := 4, pos := "types.go:324", after := #[⟨13, .data⟩, ⟨10, .chain⟩], guard := none }) (v := ?v12_14_12) rfl (by kernel_rfl) (fun _ _ _ h => h) (Or.inl ⟨by rfl, ?y12_14_12⟩) (fun _ => hS) ?_
            case y12_14_12 => (intro w hSw; go_simp; try with_reducible rfl)
            try simp only [Act.put, List.setIfInBounds_toArray, List.set_cons_zero, List.set_cons_succ]
            refine wpAnyT_pure (i := 15) (oi := { dst := some 86, op := Op.move (Operand.tmp 13), type := 25, pos := "types.go:324", after := #[⟨14, .guard⟩], guard := some (14, true) }) (v := ?v12_15_13) rfl (by kernel_rfl) (fun _ _ _ h => h) (Or.inl ⟨by rfl, ?y12_15_13⟩) (fun _ => hS) ?_
            case y12_15_13 => (intro w hSw; go_simp; try with_reducible rfl)
            try simp only [Act.put, List.setIfInBounds_toArray, List.set_cons_zero, List.set_cons_succ]
            refine wpAnyT_pure (i := 16) (oi := { dst := some 87, op := Op.call { callee := Callee.builtin Builtin.len, args := #[Operand.tmp 86], argTypes := #[25] }, type := 3, pos := "types.go:324", after := #[⟨15, .data⟩, ⟨14, .guard⟩], guard := some (14, true) }) (v := ?v12_16_14) rfl (by kernel_rfl) (fun _ _ _ h => h) (Or.inl ⟨by rfl, ?y12_16_14⟩) (fun _ => hS) ?_
            case y12_16_14 => (intro w hSw; go_simp; try with_reducible rfl)
            try simp only [Act.put, List.setIfInBounds_toArray, List.set_cons_zero, List.set_cons_succ]
            refine wpAnyT_pure (i := 17) (oi := { dst := some 88, op := Op.move (Operand.tmp 9), type := 25, pos := "types.go:324", after := #[⟨14, .guard⟩], guard := some (14, true) }) (v := ?v12_17_15) rfl (by kernel_rfl) (fun _ _ _ h => h) (Or.inl ⟨by rfl, ?y12_17_15⟩) (fun _ => hS) ?_
            case y12_17_15 => (intro w hSw; go_simp; try with_reducible rfl)
            try simp only [Act.put, List.setIfInBounds_toArray, List.set_cons_zero, List.set_cons_succ]
            refine wpAnyT_pure (i := 18) (oi := { dst := some 89, op := Op.call { callee := Callee.builtin Builtin.len, args := #[Operand.tmp 88], argTypes := #[25] }, type := 3, pos := "types.go:324", after := #[⟨17, .data⟩, ⟨14, .guard⟩], guard := some (14, true) }) (v := ?v12_18_16) rfl (by kernel_rfl) (fun _ _ _ h => h) (Or.inl ⟨by rfl, ?y12_18_16⟩) (fun _ => hS) ?_
            case y12_18_16 => (intro w hSw; go_simp; try with_reducible rfl)
            try simp only [Act.put, List.setIfInBounds_toArray, List.set_cons_zero, List.set_cons_succ]
            refine wpAnyT_pure (i := 19) (oi := { dst := some 90, op := Op.binOp BinOp.eql 3 (Operand.tmp 87) (Operand.tmp 89) 3, type := 4, pos := "types.go:324", after := #[⟨16, .data⟩, ⟨18, .data⟩, ⟨14, .guard⟩], guard := some (14, true) }) (v := ?v12_19_17) rfl (by kernel_rfl) (fun _ _ _ h => h) (Or.inl ⟨by rfl, ?y12_19_17⟩) (fun _ => hS) ?_
            case y12_19_17 => (intro w hSw; go_simp; try with_reducible rfl)
            try simp only [Act.put, List.setIfInBounds_toArray, List.set_cons_zero, List.set_cons_succ]
            refine wpAnyT_pure (i := 20) (oi := { dst := some 91, op := Op.pick (Operand.tmp 85) (Operand.tmp 90) (Operand.const (Value.bool false)), type := 4, pos := "types.go:324", after := #[⟨14, .data⟩, ⟨19, .data⟩], guard := none }) (v := ?v12_20_18) rfl (by kernel_rfl) (fun _ _ _ h => h) (Or.inl ⟨by rfl, ?y12_20_18⟩) (fun _ => hS) ?_
            case y12_20_18 => (intro w hSw; go_simp; try with_reducible rfl)
            try simp only [Act.put, List.setIfInBounds_toArray, List.set_cons_zero, List.set_cons_succ]
            refine wpAnyT_ready (rs := [21]) (by kernel_rfl) rfl ?_
            refine AllT.cons (o := { dst := some 4, op := Op.assign (Operand.tmp 91), type := 4, pos := "types.go:324", after := #[⟨20, .data⟩, ⟨14, .chain⟩, ⟨0, .phase⟩, ⟨1, .phase⟩, ⟨2, .phase⟩, ⟨3, .phase⟩, ⟨4, .phase⟩, ⟨5, .phase⟩, ⟨6, .phase⟩, ⟨7, .phase⟩, ⟨8, .phase⟩, ⟨9, .phase⟩, ⟨10, .phase⟩, ⟨11, .phase⟩, ⟨12, .phase⟩, ⟨13, .phase⟩, ⟨14, .phase⟩, ⟨15, .phase⟩, ⟨16, .phase⟩, ⟨17, .phase⟩, ⟨18, .phase⟩, ⟨19, .phase⟩, ⟨20, .phase⟩], guard := none }) rfl (fun K hK => ?_) ?_
            · go_simp
              refine hK.out _ _ (fun _ => ?_) (fun hE => ?_)
              · exact (by first | exact HQ12.out _ (Keeps.refl _ _) | exact HQ12.out _ hkd | exact HQ12.out _ hkd.drew | exact HQ12.out _ (Keeps.refl _ _).drew)
              have hS := hE (by kernel_rfl)
              clear hK K hE
              try simp only [Act.put, List.setIfInBounds_toArray, List.set_cons_zero, List.set_cons_succ]
              refine wpAnyT_done (by kernel_rfl) ?_ _
              refine NoPanic.normal ?_
              go_wp2_with fail
              go_ret
              exact ⟨(by first | (show Ending.returned (.bool (((τ.length : Nat) : Int) == ((L1 : Nat) : Int))) = _; rw [HL1.out]; simp) | (rw [HL1.out]; simp) | simp [HL1.out]), ((HK3.out.trans HK4.out (fun _ _ h => h)).trans hkc (fun _ _ h => h)).below (fun _ h => h.elim) (Nat.le_refl _)⟩
            exact AllT.nil
          exact AllT.nil
        exact AllT.nil
      exact AllT.nil

theorem own : ownKnob Tryd.prog.godebug = none := by kernel_rfl
theorem gSizes : Tryd.prog.globalNamed "provenance/unify.sizes" = some 0 := by kernel_rfl
theorem szs_of_laid {W : World} (h : laidMetH Tryd.prog Rows.unifyStableRow.laid W) : Szs W := by
  have h2 : laidMetH Tryd.prog [("provenance/unify.sizes", Lib.tabData .i64 [0, -1, 3, 1, 0, 2])] W := h
  rw [MakeChecks.laidMetH_plain _ _ _ (by kernel_rfl)] at h2
  have ht := Lib.tabIs_of_head gSizes (by kernel_rfl) Tryd.underlying51 Tryd.underlying3 (by kernel_rfl) (by kernel_rfl) h2
  unfold Lib.TabIs at ht
  exact ⟨by rw [World.var?_cell gSizes ht]; rfl, by rw [World.var?_cell gSizes ht]; rfl, by rw [World.var?_cell gSizes ht]; rfl, by rw [World.var?_cell gSizes ht]; rfl, by rw [World.var?_cell gSizes ht]; rfl, by rw [World.var?_cell gSizes ht]; rfl⟩

theorem laid : laidOutB Tryd.prog = true := by kernel_rfl

set_option maxRecDepth 100000 in
theorem lifted (os : Os) (started : os.Started) (H : Type) (enc : TypeId × Value → H) :
    ReturnsInHanded {} Tryd.checked os 4 .any (fun w args => (Rows.unifyStableSpec.pre enc Tryd.prog Tryd.f4 [] false w args ∧ laidMetH Tryd.prog Rows.unifyStableRow.laid w) ∧ sizedMet enc Tryd.prog Tryd.f4 (OpenSpec.ofChange Rows.unifyStableSpec) false w args)
      (Rows.unifyStableSpec.post enc Tryd.prog Tryd.f4 false true false false) := by
  refine handed_shaped_laid (C := Tryd.checked) (L := Rows.unifyStableRow.laid) own started (by kernel_rfl) Tryd.func4
    (ChangeSpec.witness_shaped (enc := enc) (C := Tryd.checked) (os := os) (X := fun w _ => laidMetH Tryd.prog Rows.unifyStableRow.laid w) false (World.laidAll Tryd.prog os Rows.unifyStableRow.laid) #[.agg #[.int .i64 0, .string ⟨#[]⟩, .int .i64 0, .slice none 0 0], .agg #[.int .i64 0, .string ⟨#[]⟩, .int .i64 0, .slice none 0 0]] 8 (World.laidAll_os _ _ _)
      (World.shaped_of_ZipB (by kernel_rfl) (by kernel_rfl)) (by kernel_rfl) (by kernel_rfl) (by kernel_rfl)
      (by rw [MakeChecks.laidMetH_plain _ _ _ (by kernel_rfl)]; exact laidMet_laidAll _ (by kernel_rfl) (by kernel_rfl))) ?_
  intro W base args ds gs before hval0 hW hsz0 _ hlaid
  have hz := szs_of_laid hlaid
  have hval : ∀ (j : Nat) t v, Tryd.f4.params[j]? = some t → args[j]? = some v → Value.okWide Tryd.prog W .any base t v := hval0
  have hW' := hW
  obtain ⟨p, q, hA0, hV, hbef, hfz, hnd⟩ := hW
  have hA : DataW.TrodAll enc Tryd.prog W 0 (fun _ => true) true Tryd.f4.params.toList args.toList ds p := hA0
  rw [Tryd.params4] at hA hval
  obtain ⟨v0, vs0, d0, ds0, p0, q0, hargs, hds, rfl, h0, r0⟩ := trodAll_cons hA
  obtain ⟨v1, vs1, d1, ds1, p1, q1, rfl, rfl, rfl, h1, r1⟩ := trodAll_cons r0
  obtain ⟨rfl, rfl, rfl⟩ := trodAll_nil r1
  obtain rfl : args = #[v0, v1] := by cases args; simp_all
  obtain ⟨rfl, _⟩ := trodVars_none hV
  subst hds
  obtain ⟨a0, c0, rfl, s0⟩ := rp_of_arg (f := tyD) Tryd.underlying24 (fun _ _ _ h => tyD.of_trod _ h) (hval 0 24 v0 rfl rfl) h0
  obtain ⟨av0, rfl, T0⟩ := tyD.rp.1 s0
  obtain ⟨a1, c1, rfl, s1⟩ := rp_of_arg (f := tyD) Tryd.underlying24 (fun _ _ _ h => tyD.of_trod _ h) (hval 1 24 v1 rfl rfl) h1
  obtain ⟨av1, rfl, T1⟩ := tyD.rp.1 s1
  refine (walk a0 a1 av0 av1 W T0 T1 hz).mono fun e W' ⟨he, hb⟩ => ?_
  subst he
  exact ⟨_, rfl, law_post laid (by kernel_rfl) rfl Tryd.underlying4 rfl rfl rfl rfl hW' hb⟩

theorem over : Rows.unifyStableRow.holds Tryd.pinned (OpenSpec.ofChange Rows.unifyStableSpec) :=
  OpenClaim.holds_of_wide 4 Tryd.f4 rfl rfl rfl rfl rfl rfl rfl ⟨rfl, rfl, rfl, rfl, rfl⟩ rfl rfl rfl rfl rfl (by kernel_rfl) Tryd.func4 (by kernel_rfl)
    (of_decide_eq_true (by kernel_rfl)) (by unfold Func.isWrapper; first | (rw [if_pos (by decide +kernel)]; kernel_rfl) | (rw [if_neg (by decide +kernel)]; exact ⟨rfl, rfl⟩))
    (fun os started H enc _ => lifted os started H enc)

theorem proved : Rows.UnifyStableCardSaid :=
  Claim7.holds_tied_plain_at .later [] [.data] true Rows.unifyStableCard.stood.harness false over (fun _ h => by cases h) (by kernel_rfl) (fun _ h => by cases h) unifyStable_row_tie rfl ⟨rfl, rfl⟩ (by kernel_rfl) rfl
    (fun f fn hf hfn => by
      obtain rfl : f = 4 := Option.some.inj ((show Tryd.prog.funcNamed Tryd.f4.name = some 4 by kernel_rfl).symm.trans hf) |>.symm
      obtain rfl : fn = Tryd.f4 := (Option.some.inj (Tryd.func4.symm.trans hfn)).symm
      exact ⟨by kernel_rfl, fun j t ht => by
        rw [Tryd.params4] at ht
        have hm : t ∈ [24] := by simpa using Array.mem_of_getElem? ht
        have hall : ([24].all fun u => !Tryd.prog.wantsStandIn u) = true := by kernel_rfl
        exact (show Tryd.prog.wantsStandIn t = false by simpa using List.all_eq_true.1 hall t hm)⟩)
    (by kernel_rfl)
#print axioms proved
end Go.Proofs.YthchnabhbpdfgaaDoor.unifyStable

