/- UnifyExtends: whatever the input, the law answers true. The card ties the variable unify.sizes to the program's text. -/
import Derived.Test.YthchnabhbpdfgaaDoorMRun
import Derived.Test.YthchnabhbpdfgaaDoorTill
import Derived.Test.YthchnabhbpdfgaaDoorHanded
import Derived.Deep.RegionHeld3
import Derived.Deep.DeepCutAuto
import Derived.Deep.RegionWith
import Derived.Lib.LaidTab
import Derived.LaidSub
namespace Go.Proofs.YthchnabhbpdfgaaDoor.unifyExtends
open Go.RowKit Go.Shelf Go.ChangeShapes Go.WideShapes Go.Sort Stab Go.Proofs.YthchnabhbpdfgaaDoor

set_option maxRecDepth 100000 in
set_option maxHeartbeats 16000000 in
theorem walk (a b c d : Ty) (av bv cv dv : Value) (W : World) (hTa : TyC W (· < W.heap.size) a av) (hTb : TyC W (· < W.heap.size) b bv) (hTc : TyC W (· < W.heap.size) c cv) (hTd : TyC W (· < W.heap.size) d dv) (hz : Szs W) :
    Calls Tryd.prog 5 #[tyV a av, tyV b bv, tyV c cv, tyV d dv] W fun e w' => e = .returned (.bool true) ∧ Below W.heap.size W w' := by
  obtain ⟨Aa, ca, rfl, _⟩ := hTa.form
  obtain ⟨Ab, cb, rfl, _⟩ := hTb.form
  obtain ⟨Ac, cc, rfl, _⟩ := hTc.form
  obtain ⟨Ad, cd, rfl, _⟩ := hTd.form
  obtain ⟨b0, hb0⟩ : ∃ b0, W.heap.size = b0 := ⟨_, rfl⟩
  obtain ⟨W0, hW0⟩ : ∃ W0, ((((W.alloc (.cells #[.int .i64 a.kind, .string a.name, .int .i64 a.var, .slice Aa a.args.length ca] 24)).alloc (.cells #[.int .i64 b.kind, .string b.name, .int .i64 b.var, .slice Ab b.args.length cb] 24)).alloc (.cells #[.int .i64 c.kind, .string c.name, .int .i64 c.var, .slice Ac c.args.length cc] 24)).alloc (.cells #[.int .i64 d.kind, .string d.name, .int .i64 d.var, .slice Ad d.args.length cd] 24)) = W0 := ⟨_, rfl⟩
  have hk0 : Keeps (fun _ => False) W W0 := by rw [← hW0]; exact ((((Keeps.refl _ _).alloc _).alloc _).alloc _).alloc _
  have hXa : Blk W0 (b0) 24 [.int .i64 a.kind, .string a.name, .int .i64 a.var, .slice Aa a.args.length ca] := by
    have := (((Blk.new W 24 [.int .i64 a.kind, .string a.name, .int .i64 a.var, .slice Aa a.args.length ca]).alloc (.cells #[.int .i64 b.kind, .string b.name, .int .i64 b.var, .slice Ab b.args.length cb] 24)).alloc (.cells #[.int .i64 c.kind, .string c.name, .int .i64 c.var, .slice Ac c.args.length cc] 24)).alloc (.cells #[.int .i64 d.kind, .string d.name, .int .i64 d.var, .slice Ad d.args.length cd] 24)
    rw [hW0] at this
    simpa [hb0] using this
  have hXb : Blk W0 (b0 + 1) 24 [.int .i64 b.kind, .string b.name, .int .i64 b.var, .slice Ab b.args.length cb] := by
    have := ((Blk.new (W.alloc (.cells #[.int .i64 a.kind, .string a.name, .int .i64 a.var, .slice Aa a.args.length ca] 24)) 24 [.int .i64 b.kind, .string b.name, .int .i64 b.var, .slice Ab b.args.length cb]).alloc (.cells #[.int .i64 c.kind, .string c.name, .int .i64 c.var, .slice Ac c.args.length cc] 24)).alloc (.cells #[.int .i64 d.kind, .string d.name, .int .i64 d.var, .slice Ad d.args.length cd] 24)
    rw [hW0] at this
    simpa [hb0] using this
  have hXc : Blk W0 (b0 + 1 + 1) 24 [.int .i64 c.kind, .string c.name, .int .i64 c.var, .slice Ac c.args.length cc] := by
    have := (Blk.new ((W.alloc (.cells #[.int .i64 a.kind, .string a.name, .int .i64 a.var, .slice Aa a.args.length ca] 24)).alloc (.cells #[.int .i64 b.kind, .string b.name, .int .i64 b.var, .slice Ab b.args.length cb] 24)) 24 [.int .i64 c.kind, .string c.name, .int .i64 c.var, .slice Ac c.args.length cc]).alloc (.cells #[.int .i64 d.kind, .string d.name, .int .i64 d.var, .slice Ad d.args.length cd] 24)
    rw [hW0] at this
    simpa [hb0] using this
  have hXd : Blk W0 (b0 + 1 + 1 + 1) 24 [.int .i64 d.kind, .string d.name, .int .i64 d.var, .slice Ad d.args.length cd] := by
    have := Blk.new (((W.alloc (.cells #[.int .i64 a.kind, .string a.name, .int .i64 a.var, .slice Aa a.args.length ca] 24)).alloc (.cells #[.int .i64 b.kind, .string b.name, .int .i64 b.var, .slice Ab b.args.length cb] 24)).alloc (.cells #[.int .i64 c.kind, .string c.name, .int .i64 c.var, .slice Ac c.args.length cc] 24)) 24 [.int .i64 d.kind, .string d.name, .int .i64 d.var, .slice Ad d.args.length cd]
    rw [hW0] at this
    simpa [hb0] using this
  have hs0 := hk0.size
  have ra0 := hXa.cell (i := 0) rfl
  have ra1 := hXa.cell (i := 1) rfl
  have ra2 := hXa.cell (i := 2) rfl
  have ra3 := hXa.cell (i := 3) rfl
  have rb0 := hXb.cell (i := 0) rfl
  have rb1 := hXb.cell (i := 1) rfl
  have rb2 := hXb.cell (i := 2) rfl
  have rb3 := hXb.cell (i := 3) rfl
  have rc0 := hXc.cell (i := 0) rfl
  have rc1 := hXc.cell (i := 1) rfl
  have rc2 := hXc.cell (i := 2) rfl
  have rc3 := hXc.cell (i := 3) rfl
  have rd0 := hXd.cell (i := 0) rfl
  have rd1 := hXd.cell (i := 1) rfl
  have rd2 := hXd.cell (i := 2) rfl
  have rd3 := hXd.cell (i := 3) rfl
  have HXa := Lib.hid hXa
  have HTa := Lib.hid ((hTa.keeps hk0 (fun _ _ h => h)).mono (fun b hb => Nat.lt_of_lt_of_le hb hs0) : TyC W0 (All W0) a _)
  have HXb := Lib.hid hXb
  have HTb := Lib.hid ((hTb.keeps hk0 (fun _ _ h => h)).mono (fun b hb => Nat.lt_of_lt_of_le hb hs0) : TyC W0 (All W0) b _)
  have HXc := Lib.hid hXc
  have HTc := Lib.hid ((hTc.keeps hk0 (fun _ _ h => h)).mono (fun b hb => Nat.lt_of_lt_of_le hb hs0) : TyC W0 (All W0) c _)
  have HXd := Lib.hid hXd
  have HTd := Lib.hid ((hTd.keeps hk0 (fun _ _ h => h)).mono (fun b hb => Nat.lt_of_lt_of_le hb hs0) : TyC W0 (All W0) d _)
  have HZ := Lib.hid (hz.keeps hk0 (fun h => h))
  have HK0 := Lib.hid hk0
  have HW0 := Lib.hid hW0
  have HB0 := Lib.hid hb0
  unfold tyV
  clear hz hk0 hW0 hb0 hs0 hTa hXa hTb hXb hTc hXc hTd hXd
  go_enter Tryd.func5, Tryd.ntmps5
  go_wp2_with fail
  rw [HW0.out, HB0.out]
  go_wp2_with fail
  refine (pair_any W0 a b Aa Ab ca cb).mono ?_
  rintro e w1 ⟨sv, rfl, hs1, hb1⟩
  obtain ⟨As, cs, rfl, _⟩ := hs1.form
  rw [idS_len]
  have HK1 := Lib.hid (Keeps.of_below (X := fun _ => False) hb1)
  have HS1 := Lib.hid (hs1.mono (fun b hb => hb.2) : Sl w1 (All w1) tyD (idS 12) _)
  clear hs1 hb1
  go_wp2_with fail
  with_reducible refine (num_any _).mono ?_
  rintro e w2 ⟨rfl, hk2⟩
  obtain ⟨σ0, hu0, hl0, hg0⟩ := first_var (v := 3) (by decide)
  have HK12 := Lib.hid (HK1.out.trans hk2 (fun _ _ h => h))
  have HU0 : Hid (Calls Tryd.prog 7 #[.slice As 12 cs, .agg #[.int .i64 0, .string ⟨#[]⟩, .int .i64 3, .slice none 0 0], tyV numT (.slice none 0 0)] w2 (URun w2 0 σ0)) := by
    have h := unify_run (sl_all HS1.out hk2) (HZ.out.keeps HK12.out (fun h => h)) (by rw [idS_len]; decide) (varT_ok (wfI_nat (j := 3) (by decide))) num_ok hu0 w2 (Keeps.refl _ _)
    rw [idS_len] at h
    exact h
  have HS2 := Lib.hid (sl_all HS1.out hk2)
  clear hk2 hu0
  go_wp2_with fail
  refine HU0.out.mono ?_
  rintro e w3 ⟨hk3, h3⟩
  rcases h3 with ⟨h3, _⟩ | ⟨_, gt, ct, rfl, hSt⟩
  · exact absurd rfl h3
  obtain ⟨gx, offx, xv, hadr, hgx, x0, x1, x2, x3, hTx⟩ := tyD.get hSt (i := 3) (by rw [hl0]; decide)
  simp only [Option.some.injEq, Addr.mk.injEq, and_true] at hadr
  obtain ⟨rfl, rfl⟩ := hadr
  have hgk : σ0[3] = numT := by
    rw [List.getElem?_eq_getElem (by rw [hl0]; decide)] at hg0
    exact Option.some.inj hg0
  rw [hgk] at x0
  rw [hl0]
  have HK03 := Lib.hid (HK12.out.trans hk3 (fun _ _ h => h))
  have HS3 := Lib.hid (sl_all HS2.out hk3)
  have HZ3 := Lib.hid (HZ.out.keeps HK03.out (fun h => h))
  have HTa3 := Lib.hid (tyc_all HTa.out HK03.out)
  have HXa3 := Lib.hid (HXa.out.keeps HK03.out (fun h => h))
  have HTb3 := Lib.hid (tyc_all HTb.out HK03.out)
  have HXb3 := Lib.hid (HXb.out.keeps HK03.out (fun h => h))
  have HTc3 := Lib.hid (tyc_all HTc.out HK03.out)
  have HXc3 := Lib.hid (HXc.out.keeps HK03.out (fun h => h))
  have HTd3 := Lib.hid (tyc_all HTd.out HK03.out)
  have HXd3 := Lib.hid (HXd.out.keeps HK03.out (fun h => h))
  clear ra0 ra1 ra2 ra3 rb0 rb1 rb2 rb3 rc0 rc1 rc2 rc3 rd0 rd1 rd2 rd3
  have hxa := HXa3.out
  have ra0 := hxa.cell (i := 0) rfl
  have ra1 := hxa.cell (i := 1) rfl
  have ra2 := hxa.cell (i := 2) rfl
  have ra3 := hxa.cell (i := 3) rfl
  have hxb := HXb3.out
  have rb0 := hxb.cell (i := 0) rfl
  have rb1 := hxb.cell (i := 1) rfl
  have rb2 := hxb.cell (i := 2) rfl
  have rb3 := hxb.cell (i := 3) rfl
  have hxc := HXc3.out
  have rc0 := hxc.cell (i := 0) rfl
  have rc1 := hxc.cell (i := 1) rfl
  have rc2 := hxc.cell (i := 2) rfl
  have rc3 := hxc.cell (i := 3) rfl
  have hxd := HXd3.out
  have rd0 := hxd.cell (i := 0) rfl
  have rd1 := hxd.cell (i := 1) rfl
  have rd2 := hxd.cell (i := 2) rfl
  have rd3 := hxd.cell (i := 3) rfl
  clear hxa hxb hxc hxd
  have HK3 := Lib.hid (HK0.out.trans HK03.out (fun _ _ h => h))
  clear hgk hg0 hl0 x1 x2 x3 hTx hgx hSt hk3
  have x0 : w3.cell? ⟨gt, 12, none⟩ = some (.int .i64 1) := x0
  obtain ⟨ka, qa, e1, τ, hu1⟩ := unifyS_total (idS 12) a b
  have hU1 := unify_run HS3.out HZ3.out (by rw [idS_len]; decide) HTa3.out HTb3.out hu1
  rw [idS_len] at hU1
  unfold tyV at hU1
  have HU1 := Lib.hid hU1
  have Hu1 := Lib.hid hu1
  clear hU1 hu1
  go_wp2_with fail
  with_reducible refine (HU1.out _ (Keeps.refl _ _)).mono ?_
  rintro e w4 ⟨hk4, h4⟩
  clear ra0 ra1 ra2 ra3 rb0 rb1 rb2 rb3 rc0 rc1 rc2 rc3 rd0 rd1 rd2 rd3
  have hxa := HXa3.out.keeps hk4 (fun h => h)
  have ra0 := hxa.cell (i := 0) rfl
  have ra1 := hxa.cell (i := 1) rfl
  have ra2 := hxa.cell (i := 2) rfl
  have ra3 := hxa.cell (i := 3) rfl
  have hxb := HXb3.out.keeps hk4 (fun h => h)
  have rb0 := hxb.cell (i := 0) rfl
  have rb1 := hxb.cell (i := 1) rfl
  have rb2 := hxb.cell (i := 2) rfl
  have rb3 := hxb.cell (i := 3) rfl
  have hxc := HXc3.out.keeps hk4 (fun h => h)
  have rc0 := hxc.cell (i := 0) rfl
  have rc1 := hxc.cell (i := 1) rfl
  have rc2 := hxc.cell (i := 2) rfl
  have rc3 := hxc.cell (i := 3) rfl
  have hxd := HXd3.out.keeps hk4 (fun h => h)
  have rd0 := hxd.cell (i := 0) rfl
  have rd1 := hxd.cell (i := 1) rfl
  have rd2 := hxd.cell (i := 2) rfl
  have rd3 := hxd.cell (i := 3) rfl
  clear hxa hxb hxc hxd
  have HK4 := Lib.hid hk4
  clear hk4
  rcases h4 with ⟨h1, rfl⟩ | ⟨rfl, g4, c4, rfl, hS4⟩
  · have k1 : (e1 != 0) = true := by rw [bne_iff_ne]; exact h1
    clear h1
    go_wp2_with fail
    go_ret
    exact ⟨rfl, (HK3.out.trans HK4.out (fun _ _ h => h)).below (fun i h => h.elim) (Nat.le_refl _)⟩
  · have ho1 := unifyS_out Hu1.out
    have hlen1 := ho1.step.keep.len
    rw [idS_len] at hlen1
    obtain ⟨kb, qb, e2, υ, hu2⟩ := unifyS_total τ c d
    have hU2 := unify_run hS4 (HZ3.out.keeps HK4.out (fun h => h)) (by omega) (tyc_all HTc3.out HK4.out) (tyc_all HTd3.out HK4.out) hu2
    unfold tyV at hU2
    obtain ⟨L1, hL1⟩ : ∃ L, τ.length = L := ⟨_, rfl⟩
    rw [hL1] at hU2 hS4 hlen1 ⊢
    have HU2 := Lib.hid hU2
    have Hu2 := Lib.hid hu2
    have HS4 := Lib.hid hS4
    have HL1 := Lib.hid hL1
    have HO1 := Lib.hid ho1
    have HLe1 := Lib.hid hlen1
    clear hU2 hu2 hS4 hL1 ho1 hlen1
    go_wp2_with fail
    with_reducible refine (HU2.out _ (Keeps.refl _ _)).mono ?_
    rintro e w5 ⟨hk5, h5⟩
    clear ra0 ra1 ra2 ra3 rb0 rb1 rb2 rb3 rc0 rc1 rc2 rc3 rd0 rd1 rd2 rd3
    have hxa := (HXa3.out.keeps HK4.out (fun h => h)).keeps hk5 (fun h => h)
    have ra0 := hxa.cell (i := 0) rfl
    have ra1 := hxa.cell (i := 1) rfl
    have ra2 := hxa.cell (i := 2) rfl
    have ra3 := hxa.cell (i := 3) rfl
    have hxb := (HXb3.out.keeps HK4.out (fun h => h)).keeps hk5 (fun h => h)
    have rb0 := hxb.cell (i := 0) rfl
    have rb1 := hxb.cell (i := 1) rfl
    have rb2 := hxb.cell (i := 2) rfl
    have rb3 := hxb.cell (i := 3) rfl
    have hxc := (HXc3.out.keeps HK4.out (fun h => h)).keeps hk5 (fun h => h)
    have rc0 := hxc.cell (i := 0) rfl
    have rc1 := hxc.cell (i := 1) rfl
    have rc2 := hxc.cell (i := 2) rfl
    have rc3 := hxc.cell (i := 3) rfl
    have hxd := (HXd3.out.keeps HK4.out (fun h => h)).keeps hk5 (fun h => h)
    have rd0 := hxd.cell (i := 0) rfl
    have rd1 := hxd.cell (i := 1) rfl
    have rd2 := hxd.cell (i := 2) rfl
    have rd3 := hxd.cell (i := 3) rfl
    clear hxa hxb hxc hxd
    have HK5 := Lib.hid (HK4.out.trans hk5 (fun _ _ h => h))
    rcases h5 with ⟨h1, rfl⟩ | ⟨rfl, g5, c5, rfl, hS5⟩
    · have k1 : (e2 != 0) = true := by rw [bne_iff_ne]; exact h1
      clear h1 hk5
      go_wp2_with fail
      go_ret
      exact ⟨rfl, (HK3.out.trans HK5.out (fun _ _ h => h)).below (fun i h => h.elim) (Nat.le_refl _)⟩
    · -- both unify
      have ho1 := HO1.out
      have ho2 := unifyS_out Hu2.out
      have hlen2 := ho2.step.keep.len
      have HT5 : Hid (Sl w5 (All w5) tyD τ (.slice (some ⟨g4, 0, none⟩) L1 c4)) := sl_all HS4.out hk5
      obtain ⟨L2, hL2⟩ : ∃ L, υ.length = L := ⟨_, rfl⟩
      rw [hL2] at hS5 hlen2 ⊢
      rw [HL1.out] at hlen2
      have hlm : L1 ≤ 4096 := by rw [← HL1.out]; exact ho1.gd.len
      have hlm2 : L2 ≤ 4096 := by rw [← hL2]; exact ho2.gd.len
      have hva := ho2.step.vin (ho1.step.vin ho1.inn.va)
      have hvb := ho2.step.vin (ho1.step.vin ho1.inn.vb)
      have hvc := ho2.step.vin ho2.inn.va
      have hvd := ho2.step.vin ho2.inn.vb
      have wA := ho2.gd.apwf ho1.inn.wa
      have wB := ho2.gd.apwf ho1.inn.wb
      have wC := ho2.gd.apwf ho2.inn.wa
      have wD := ho2.gd.apwf ho2.inn.wb
      have nA : nodes (ap υ a) ≤ 33554432 := by have := ho2.szd.nodes ho2.gd a hva; have := ho1.inn.na; omega
      have nB : nodes (ap υ b) ≤ 33554432 := by have := ho2.szd.nodes ho2.gd b hvb; have := ho1.inn.nb; omega
      have nC : nodes (ap υ c) ≤ 33554432 := by have := ho2.szd.nodes ho2.gd c hvc; have := ho2.inn.na; omega
      have nD : nodes (ap υ d) ≤ 33554432 := by have := ho2.szd.nodes ho2.gd d hvd; have := ho2.inn.nb; omega
      have eAB : normP (ap υ a) = normP (ap υ b) := later_eq ho1.gd ho2.step ho1.inn.wa ho1.inn.wb (ho1.step.vin ho1.inn.va) (ho1.step.vin ho1.inn.vb) ho1.same
      have eCD := ho2.same
      have hRa := fun (B : World) (hB : Keeps (fun _ => False) w5 B) => apply_run ho2.gd ho2.szd (sl_all hS5 hB) (tyc_all (tyc_all HTa3.out HK5.out) hB) ho1.inn.wa hva (by have := ho1.inn.na; omega)
      have hRb := fun (B : World) (hB : Keeps (fun _ => False) w5 B) => apply_run ho2.gd ho2.szd (sl_all hS5 hB) (tyc_all (tyc_all HTb3.out HK5.out) hB) ho1.inn.wb hvb (by have := ho1.inn.nb; omega)
      have hRc := fun (B : World) (hB : Keeps (fun _ => False) w5 B) => apply_run ho2.gd ho2.szd (sl_all hS5 hB) (tyc_all (tyc_all HTc3.out HK5.out) hB) ho2.inn.wa hvc (by have := ho2.inn.na; omega)
      have hRd := fun (B : World) (hB : Keeps (fun _ => False) w5 B) => apply_run ho2.gd ho2.szd (sl_all hS5 hB) (tyc_all (tyc_all HTd3.out HK5.out) hB) ho2.inn.wb hvd (by have := ho2.inn.nb; omega)
      -- what is bound stays bound
      have hbd : ∀ i, i < L1 → selfB τ i = false → υ[i]? = τ[i]? := fun i hi hs => ho2.step.keep.bound i (by rw [HL1.out]; exact hi) hs
      have hgt := ho1.gd.wf
      have hszt := fun x hx => ho1.szd.ent ho1.gd x hx
      have hvar : ∀ i (x : Ty), τ[i]? = some x → selfB τ i = false → ¬ (x.kind = 0 ∧ x.var = (i : Int)) := fun i x hx hs h => by
        have : selfB τ i = true := selfB_iff.2 ⟨x, hx, h.1, h.2⟩
        rw [hs] at this; cases this
      have hslf : ∀ i (x : Ty), τ[i]? = some x → selfB τ i = true → x.kind = 0 ∧ x.var = (i : Int) := fun i x hx hs => by
        obtain ⟨y, hy, h1, h2⟩ := selfB_iff.1 hs
        rw [hx] at hy; cases hy
        exact ⟨h1, h2⟩
      obtain ⟨xa, hxa⟩ : ∃ x, ap υ a = x := ⟨_, rfl⟩
      obtain ⟨xb, hxb⟩ : ∃ x, ap υ b = x := ⟨_, rfl⟩
      obtain ⟨xc, hxc⟩ : ∃ x, ap υ c = x := ⟨_, rfl⟩
      obtain ⟨xd, hxd⟩ : ∃ x, ap υ d = x := ⟨_, rfl⟩
      rw [hxa] at wA nA eAB hRa
      rw [hxb] at wB nB eAB hRb
      rw [hxc] at wC nC eCD hRc
      rw [hxd] at wD nD eCD hRd
      have hSab := fun (B : World) (A : Option Addr) (cc : Nat) (A' : Option Addr) (cc' : Nat) (h1 : TyC B (All B) xa (.slice A xa.args.length cc)) (h2 : TyC B (All B) xb (.slice A' xb.args.length cc')) => same_run h1 h2 wA wB nA nB eAB
      have hScd := fun (B : World) (A : Option Addr) (cc : Nat) (A' : Option Addr) (cc' : Nat) (h1 : TyC B (All B) xc (.slice A xc.args.length cc)) (h2 : TyC B (All B) xd (.slice A' xd.args.length cc')) => same_run h1 h2 wC wD nC nD eCD
      unfold tyV at hSab hScd hRa hRb hRc hRd
      unfold ARun at hRa hRb hRc hRd
      have HRa := Lib.hid hRa
      have HRb := Lib.hid hRb
      have HRc := Lib.hid hRc
      have HRd := Lib.hid hRd
      have HSab := Lib.hid hSab
      have HScd := Lib.hid hScd
      have HBd := Lib.hid hbd
      have HGt := Lib.hid hgt
      have HSzt := Lib.hid hszt
      have HVar := Lib.hid hvar
      have HSlf := Lib.hid hslf
      have HLe2 := Lib.hid hlen2
      have HS5 := Lib.hid hS5
      have HL2 := Lib.hid hL2
      have hlk : (L1 : Int) ≤ 4096 := by omega
      have HQ : Hid (∀ X, Keeps (fun _ => False) w5 X → (X.cell? ⟨b0, 0, none⟩ = some (.int .i64 a.kind) ∧ X.cell? ⟨b0, 1, none⟩ = some (.string a.name) ∧ X.cell? ⟨b0, 2, none⟩ = some (.int .i64 a.var) ∧ X.cell? ⟨b0, 3, none⟩ = some (.slice Aa a.args.length ca) ∧ X.cell? ⟨b0 + 1, 0, none⟩ = some (.int .i64 b.kind) ∧ X.cell? ⟨b0 + 1, 1, none⟩ = some (.string b.name) ∧ X.cell? ⟨b0 + 1, 2, none⟩ = some (.int .i64 b.var) ∧ X.cell? ⟨b0 + 1, 3, none⟩ = some (.slice Ab b.args.length cb) ∧ X.cell? ⟨b0 + 1 + 1, 0, none⟩ = some (.int .i64 c.kind) ∧ X.cell? ⟨b0 + 1 + 1, 1, none⟩ = some (.string c.name) ∧ X.cell? ⟨b0 + 1 + 1, 2, none⟩ = some (.int .i64 c.var) ∧ X.cell? ⟨b0 + 1 + 1, 3, none⟩ = some (.slice Ac c.args.length cc) ∧ X.cell? ⟨b0 + 1 + 1 + 1, 0, none⟩ = some (.int .i64 d.kind) ∧ X.cell? ⟨b0 + 1 + 1 + 1, 1, none⟩ = some (.string d.name) ∧ X.cell? ⟨b0 + 1 + 1 + 1, 2, none⟩ = some (.int .i64 d.var) ∧ X.cell? ⟨b0 + 1 + 1 + 1, 3, none⟩ = some (.slice Ad d.args.length cd))) := fun X hk => ⟨hk.cell ra0 (fun h => h), hk.cell ra1 (fun h => h), hk.cell ra2 (fun h => h), hk.cell ra3 (fun h => h), hk.cell rb0 (fun h => h), hk.cell rb1 (fun h => h), hk.cell rb2 (fun h => h), hk.cell rb3 (fun h => h), hk.cell rc0 (fun h => h), hk.cell rc1 (fun h => h), hk.cell rc2 (fun h => h), hk.cell rc3 (fun h => h), hk.cell rd0 (fun h => h), hk.cell rd1 (fun h => h), hk.cell rd2 (fun h => h), hk.cell rd3 (fun h => h)⟩
      clear hRa hRb hRc hRd hSab hScd hbd hgt hszt hvar hslf hlen2 hS5 hL2 wA wB wC wD nA nB nC nD eAB eCD hxa hxb hxc hxd hva hvb hvc hvd ho1 ho2 hk5 HO1 ra0 ra1 ra2 ra3 rb0 rb1 rb2 rb3 rc0 rc1 rc2 rc3 rd0 rd1 rd2 rd3
      go_wp2_with fail
      go_loopw [72] (fun i wr => ∃ j : Nat, j ≤ L1 ∧ .int .i64 (j : Int) = i ∧ Keeps (fun _ => False) w5 wr) (fun i _ => L1 - (intOf i).toNat)
      case atStart => exact ⟨0, Nat.zero_le _, rfl, Keeps.refl _ _⟩
      case round =>
        obtain ⟨j, hj, rfl, hkr⟩ := hrel
        have hj0 : (0 : Int) ≤ (j : Int) := by omega
        by_cases hlt : j < L1
        · have kz : (j : Int) < (L1 : Int) := by omega
          have hle2 := HLe2.out
          have kz2 : (j : Int) < (L2 : Int) := by omega
          have kz3 : (j : Int) + 1 ≤ 4096 := by omega
          have hSt : Sl wr (All wr) tyD τ (.slice (some ⟨g4, 0, none⟩) L1 c4) := sl_all HT5.out hkr
          have hSu : Sl wr (All wr) tyD υ (.slice (some ⟨g5, 0, none⟩) L2 c5) := sl_all HS5.out hkr
          obtain ⟨gx, offx, xv, hadr, hgx, x0, x1, x2, x3, hTx⟩ := tyD.get hSt (i := j) (by rw [HL1.out]; exact hlt)
          simp only [Option.some.injEq, Addr.mk.injEq, and_true] at hadr
          obtain ⟨rfl, rfl⟩ := hadr
          obtain ⟨gy, offy, yv, hadr, hgy, y0, y1, y2, y3, hTy⟩ := tyD.get hSu (i := j) (by rw [HL2.out]; omega)
          simp only [Option.some.injEq, Addr.mk.injEq, and_true] at hadr
          obtain ⟨rfl, rfl⟩ := hadr
          obtain ⟨x, hx⟩ : ∃ x, τ[j]'(by rw [HL1.out]; exact hlt) = x := ⟨_, rfl⟩
          obtain ⟨y, hy⟩ : ∃ y, υ[j]'(by rw [HL2.out]; omega) = y := ⟨_, rfl⟩
          have hx2 : τ[j]? = some x := by rw [List.getElem?_eq_getElem (by rw [HL1.out]; exact hlt), hx]
          have hy2 : υ[j]? = some y := by rw [List.getElem?_eq_getElem (by rw [HL2.out]; omega), hy]
          rw [hx] at x0 x1 x2 hTx
          rw [hy] at y0 y1 y2 hTy
          rw [Nat.zero_add] at x0 x1 x2 x3 y0 y1 y2 y3
          obtain ⟨Ax, cx, rfl, _⟩ := hTx.form
          obtain ⟨Ay, cy, rfl, _⟩ := hTy.form
          obtain ⟨b8, hb8⟩ : ∃ b8, wr.heap.size = b8 := ⟨_, rfl⟩
          obtain ⟨W8, hW8⟩ : ∃ W8, wr.alloc (.cells #[.int .i64 x.kind, .string x.name, .int .i64 x.var, .slice Ax x.args.length cx] 24) = W8 := ⟨_, rfl⟩
          have hk8 : Keeps (fun _ => False) wr W8 := by rw [← hW8]; exact (Keeps.refl _ _).alloc _
          have hX8 : Blk W8 b8 24 [.int .i64 x.kind, .string x.name, .int .i64 x.var, .slice Ax x.args.length cx] := by rw [← hW8, ← hb8]; exact Blk.new wr _ [_, _, _, _]
          cases hs : selfB τ j with
          | true =>
            obtain ⟨e0, e1⟩ := HSlf.out j x hx2 hs
            have ke0 : (x.kind != 0) = false := by rw [e0]; rfl
            have ke1 : (x.var != (j : Int)) = false := by rw [e1]; simp
            have z0 := hX8.cell (i := 0) rfl
            have z2 := hX8.cell (i := 2) rfl
            have HK8 := Lib.hid (hkr.trans hk8 (fun _ _ h => h))
            have HW8 := Lib.hid hW8
            have HB8 := Lib.hid hb8
            clear hX8 hk8 hkr hW8 hb8 hSt hSu hTx hTy hx hy hx2 hy2 hgx hgy e0 e1 hs
            go_upto_region 14 with (fail)
            rw [HW8.out, HB8.out]
            go_region
            go_wp2_with fail
            go_roundw
            case rel => exact ⟨j + 1, by omega, by go_num, by first | exact HK8.out | exact HK8.out.drew⟩
            case measure => simp [intOf]; omega
          | false =>
            have hyx : y = x := by
              have := HBd.out j hlt hs
              rw [hx2, hy2] at this
              exact Option.some.inj this
            subst hyx
            have hnv := HVar.out j y hx2 hs
            have hsm := same_run (tyc_all hTx hk8) (tyc_all hTy hk8) (HGt.out y (List.mem_of_getElem? hx2)) (HGt.out y (List.mem_of_getElem? hx2)) (by have := HSzt.out y (List.mem_of_getElem? hx2); omega) (by have := HSzt.out y (List.mem_of_getElem? hx2); omega) rfl
            unfold tyV at hsm
            have HSm := Lib.hid hsm
            have z0 := hX8.cell (i := 0) rfl
            have z1 := hX8.cell (i := 1) rfl
            have z2 := hX8.cell (i := 2) rfl
            have z3 := hX8.cell (i := 3) rfl
            have y0' := hk8.cell y0 (fun h => h)
            have y1' := hk8.cell y1 (fun h => h)
            have y2' := hk8.cell y2 (fun h => h)
            have y3' := hk8.cell y3 (fun h => h)
            have HK8 := Lib.hid (hkr.trans hk8 (fun _ _ h => h))
            have HW8 := Lib.hid hW8
            have HB8 := Lib.hid hb8
            have hcase : (y.kind != 0) = true ∨ ((y.kind != 0) = false ∧ (y.var != (j : Int)) = true) := by
              by_cases e0 : y.kind = 0
              · exact .inr ⟨by rw [e0]; rfl, by rw [bne_iff_ne]; exact fun e1 => hnv ⟨e0, e1⟩⟩
              · exact .inl (by rw [bne_iff_ne]; exact e0)
            have HQ14 : Hid (∀ X, Keeps (fun _ => False) W8 X → (X.cell? ⟨b8, 0, none⟩ = some (.int .i64 y.kind) ∧ X.cell? ⟨b8, 1, none⟩ = some (.string y.name) ∧ X.cell? ⟨b8, 2, none⟩ = some (.int .i64 y.var) ∧ X.cell? ⟨b8, 3, none⟩ = some (.slice Ax y.args.length cx) ∧ X.cell? ⟨g5, j * 4, none⟩ = some (.int .i64 y.kind) ∧ X.cell? ⟨g5, j * 4 + 1, none⟩ = some (.string y.name) ∧ X.cell? ⟨g5, j * 4 + 2, none⟩ = some (.int .i64 y.var) ∧ X.cell? ⟨g5, j * 4 + 3, none⟩ = some (.slice Ay y.args.length cy))) := fun X hk => ⟨hk.cell z0 (fun h => h), hk.cell z1 (fun h => h), hk.cell z2 (fun h => h), hk.cell z3 (fun h => h), hk.cell y0' (fun h => h), hk.cell y1' (fun h => h), hk.cell y2' (fun h => h), hk.cell y3' (fun h => h)⟩
            clear hX8 hk8 hkr hW8 hb8 hSt hSu hTx hTy hx hy hx2 hy2 hgx hgy hs hnv hsm z0 z1 z2 z3 y0' y1' y2' y3'
            rcases hcase with ke0 | ⟨ke0, ke1⟩
            · go_upto_region 14 with (fail)
              rw [HW8.out, HB8.out]
              clear x0 x1 x2 x3 y0 y1 y2 y3
              refine wp_region_noPanic ?_
              refine wp_region_till [] (fun X => X.cell? ⟨b8, 0, none⟩ = some (.int .i64 y.kind) ∧ X.cell? ⟨b8, 1, none⟩ = some (.string y.name) ∧ X.cell? ⟨b8, 2, none⟩ = some (.int .i64 y.var) ∧ X.cell? ⟨b8, 3, none⟩ = some (.slice Ax y.args.length cx) ∧ X.cell? ⟨g5, j * 4, none⟩ = some (.int .i64 y.kind) ∧ X.cell? ⟨g5, j * 4 + 1, none⟩ = some (.string y.name) ∧ X.cell? ⟨g5, j * 4 + 2, none⟩ = some (.int .i64 y.var) ∧ X.cell? ⟨g5, j * 4 + 3, none⟩ = some (.slice Ay y.args.length cy)) (by kernel_rfl) ?_ (fun hE => ?_)
              · exact HQ14.out _ (by repeat (first | (with_reducible assumption) | (with_reducible exact Keeps.refl _ _) | (with_reducible refine Keeps.drewN ?_ _) | (with_reducible refine Keeps.drew ?_) | with_reducible refine Keeps.setCell ?_ (by first | (intro _; exact rfl) | (intro _; exact Or.inl rfl) | (intro _; exact Or.inr rfl) | (simp; done) | (simp; omega)) _ | (with_reducible refine Keeps.alloc ?_ _)))
              have hS := hE (by kernel_rfl)
              refine wpAnyT_pure (i := 0) (oi := { dst := some 77, op := Op.fieldAddr 24 (Operand.tmp 17) 0, type := 0, pos := "types.go:358", after := #[], guard := none }) (v := ?v14_0_1) rfl (by kernel_rfl) (fun _ _ _ h => h) (Or.inl ⟨by rfl, ?y14_0_1⟩) (fun _ => hS) ?_
              case y14_0_1 => (intro w hSw; go_simp; try with_reducible rfl)
              try simp only [Act.put, List.setIfInBounds_toArray, List.set_cons_zero, List.set_cons_succ]
              refine wpAnyT_take (i := 1) (oi := { dst := some 78, op := Op.load 3 (Operand.tmp 77), type := 3, pos := "types.go:358", after := #[⟨0, .data⟩], guard := none }) (v := ?v14_1_2) rfl (by kernel_rfl) (fun _ _ _ h => h) (Or.inl ⟨by rfl, ?y14_1_2⟩) hS ?_
              case y14_1_2 => (intro w hSw; (try dsimp only at hSw); go_simp; try with_reducible rfl)
              try simp only [Act.put, List.setIfInBounds_toArray, List.set_cons_zero, List.set_cons_succ]
              refine wpAnyT_pure (i := 2) (oi := { dst := some 79, op := Op.binOp BinOp.neq 3 (Operand.tmp 78) (Operand.const (Value.int IntKind.i64 0)) 3, type := 4, pos := "types.go:358", after := #[⟨1, .data⟩], guard := none }) (v := ?v14_2_3) rfl (by kernel_rfl) (fun _ _ _ h => h) (Or.inl ⟨by rfl, ?y14_2_3⟩) (fun _ => hS) ?_
              case y14_2_3 => (intro w hSw; go_simp; try with_reducible rfl)
              try simp only [Act.put, List.setIfInBounds_toArray, List.set_cons_zero, List.set_cons_succ]
              refine wpAnyT_pure (i := 3) (oi := { dst := some 80, op := Op.move (Operand.tmp 79), type := 4, pos := "types.go:358", after := #[⟨2, .data⟩], guard := none }) (v := ?v14_3_4) rfl (by kernel_rfl) (fun _ _ _ h => h) (Or.inl ⟨by rfl, ?y14_3_4⟩) (fun _ => hS) ?_
              case y14_3_4 => (intro w hSw; go_simp; try with_reducible rfl)
              try simp only [Act.put, List.setIfInBounds_toArray, List.set_cons_zero, List.set_cons_succ]
              refine wpAnyT_pure (i := 4) (oi := { dst := some 81, op := Op.fieldAddr 24 (Operand.tmp 17) 2, type := 0, pos := "types.go:358", after := #[⟨3, .guard⟩], guard := some (3, false) }) (v := undef) rfl (by kernel_rfl) (fun _ _ _ h => h) (Or.inr ⟨by rfl, rfl⟩) (fun _ => hS) ?_
              try simp only [Act.put, List.setIfInBounds_toArray, List.set_cons_zero, List.set_cons_succ]
              refine wpAnyT_pure (i := 5) (oi := { dst := some 82, op := Op.load 3 (Operand.tmp 81), type := 3, pos := "types.go:358", after := #[⟨4, .data⟩, ⟨3, .guard⟩], guard := some (3, false) }) (v := undef) rfl (by kernel_rfl) (fun _ _ _ h => h) (Or.inr ⟨by rfl, rfl⟩) (fun _ => hS) ?_
              try simp only [Act.put, List.setIfInBounds_toArray, List.set_cons_zero, List.set_cons_succ]
              refine wpAnyT_pure (i := 6) (oi := { dst := some 83, op := Op.move (Operand.tmp 16), type := 3, pos := "types.go:358", after := #[⟨3, .guard⟩], guard := some (3, false) }) (v := undef) rfl (by kernel_rfl) (fun _ _ _ h => h) (Or.inr ⟨by rfl, rfl⟩) (fun _ => hS) ?_
              try simp only [Act.put, List.setIfInBounds_toArray, List.set_cons_zero, List.set_cons_succ]
              refine wpAnyT_pure (i := 7) (oi := { dst := some 84, op := Op.binOp BinOp.neq 3 (Operand.tmp 82) (Operand.tmp 83) 3, type := 4, pos := "types.go:358", after := #[⟨5, .data⟩, ⟨6, .data⟩, ⟨3, .guard⟩], guard := some (3, false) }) (v := undef) rfl (by kernel_rfl) (fun _ _ _ h => h) (Or.inr ⟨by rfl, rfl⟩) (fun _ => hS) ?_
              try simp only [Act.put, List.setIfInBounds_toArray, List.set_cons_zero, List.set_cons_succ]
              refine wpAnyT_pure (i := 8) (oi := { dst := some 85, op := Op.pick (Operand.tmp 80) (Operand.const (Value.bool true)) (Operand.tmp 84), type := 4, pos := "types.go:358", after := #[⟨3, .data⟩, ⟨7, .data⟩], guard := none }) (v := ?v14_8_9) rfl (by kernel_rfl) (fun _ _ _ h => h) (Or.inl ⟨by rfl, ?y14_8_9⟩) (fun _ => hS) ?_
              case y14_8_9 => (intro w hSw; go_simp; try with_reducible rfl)
              try simp only [Act.put, List.setIfInBounds_toArray, List.set_cons_zero, List.set_cons_succ]
              refine wpAnyT_pure (i := 9) (oi := { dst := some 86, op := Op.move (Operand.tmp 85), type := 4, pos := "types.go:358", after := #[⟨8, .data⟩, ⟨3, .chain⟩], guard := none }) (v := ?v14_9_10) rfl (by kernel_rfl) (fun _ _ _ h => h) (Or.inl ⟨by rfl, ?y14_9_10⟩) (fun _ => hS) ?_
              case y14_9_10 => (intro w hSw; go_simp; try with_reducible rfl)
              try simp only [Act.put, List.setIfInBounds_toArray, List.set_cons_zero, List.set_cons_succ]
              refine wpAnyT_take (i := 10) (oi := { dst := some 87, op := Op.load 24 (Operand.tmp 17), type := 24, pos := "types.go:358", after := #[⟨9, .guard⟩], guard := some (9, true) }) (v := ?v14_10_11) rfl (by kernel_rfl) (fun _ _ _ h => h) (Or.inl ⟨by rfl, ?y14_10_11⟩) hS ?_
              case y14_10_11 => (intro w hSw; (try dsimp only at hSw); go_simp; try with_reducible rfl)
              try simp only [Act.put, List.setIfInBounds_toArray, List.set_cons_zero, List.set_cons_succ]
              refine wpAnyT_pure (i := 11) (oi := { dst := some 88, op := Op.move (Operand.tmp 15), type := 25, pos := "types.go:358", after := #[⟨9, .guard⟩], guard := some (9, true) }) (v := ?v14_11_12) rfl (by kernel_rfl) (fun _ _ _ h => h) (Or.inl ⟨by rfl, ?y14_11_12⟩) (fun _ => hS) ?_
              case y14_11_12 => (intro w hSw; go_simp; try with_reducible rfl)
              try simp only [Act.put, List.setIfInBounds_toArray, List.set_cons_zero, List.set_cons_succ]
              refine wpAnyT_pure (i := 12) (oi := { dst := some 89, op := Op.move (Operand.tmp 16), type := 3, pos := "types.go:358", after := #[⟨9, .guard⟩], guard := some (9, true) }) (v := ?v14_12_13) rfl (by kernel_rfl) (fun _ _ _ h => h) (Or.inl ⟨by rfl, ?y14_12_13⟩) (fun _ => hS) ?_
              case y14_12_13 => (intro w hSw; go_simp; try with_reducible rfl)
              try simp only [Act.put, List.setIfInBounds_toArray, List.set_cons_zero, List.set_cons_succ]
              refine wpAnyT_pure (i := 13) (oi := { dst := some 90, op := Op.indexAddr 25 (Operand.tmp 88) (Operand.tmp 89), type := 0, pos := "types.go:358", after := #[⟨11, .data⟩, ⟨12, .data⟩, ⟨9, .guard⟩], guard := some (9, true) }) (v := ?v14_13_14) rfl (by kernel_rfl) (fun _ _ _ h => h) (Or.inl ⟨by rfl, ?y14_13_14⟩) (fun _ => hS) ?_
              case y14_13_14 => (intro w hSw; go_simp; try with_reducible rfl)
              try simp only [Act.put, List.setIfInBounds_toArray, List.set_cons_zero, List.set_cons_succ]
              refine wpAnyT_take (i := 14) (oi := { dst := some 91, op := Op.load 24 (Operand.tmp 90), type := 24, pos := "types.go:358", after := #[⟨13, .data⟩, ⟨9, .guard⟩], guard := some (9, true) }) (v := ?v14_14_15) rfl (by kernel_rfl) (fun _ _ _ h => h) (Or.inl ⟨by rfl, ?y14_14_15⟩) hS ?_
              case y14_14_15 => (intro w hSw; (try dsimp only at hSw); go_simp; try with_reducible rfl)
              try simp only [Act.put, List.setIfInBounds_toArray, List.set_cons_zero, List.set_cons_succ]
              refine wpAnyT_ready (rs := [15]) (by kernel_rfl) rfl ?_
              refine AllT.cons (o := { dst := some 92, op := Op.call { callee := Callee.value (Operand.func 12), args := #[Operand.tmp 87, Operand.tmp 91], argTypes := #[24, 24] }, type := 4, pos := "types.go:358", after := #[⟨10, .data⟩, ⟨14, .data⟩, ⟨9, .chain⟩, ⟨9, .guard⟩], guard := some (9, true) }) rfl (fun K hK => ?_) ?_
              · (rw [if_pos (by rfl)]; (go_simp; go_at_call 12; with_reducible refine (HSm.out _ (by repeat (first | (with_reducible assumption) | (with_reducible exact Keeps.refl _ _) | (with_reducible refine Keeps.drewN ?_ _) | (with_reducible refine Keeps.drew ?_) | with_reducible refine Keeps.setCell ?_ (by first | (intro _; exact rfl) | (intro _; exact Or.inl rfl) | (intro _; exact Or.inr rfl) | (simp; done) | (simp; omega)) _ | (with_reducible refine Keeps.alloc ?_ _)))).mono ?_; rintro e wz ⟨rfl, hkz⟩; go_wp2_with fail))
                refine hK.out _ _ (fun _ => ?_) (fun hE => ?_)
                · exact HQ14.out _ (by repeat (first | (with_reducible assumption) | (with_reducible exact Keeps.refl _ _) | (with_reducible refine Keeps.drewN ?_ _) | (with_reducible refine Keeps.drew ?_) | with_reducible refine Keeps.setCell ?_ (by first | (intro _; exact rfl) | (intro _; exact Or.inl rfl) | (intro _; exact Or.inr rfl) | (simp; done) | (simp; omega)) _ | (with_reducible refine Keeps.alloc ?_ _)))
                have hS := hE (by kernel_rfl)
                clear hK K hE
                try simp only [Act.put, List.setIfInBounds_toArray, List.set_cons_zero, List.set_cons_succ]
                refine wpAnyT_pure (i := 16) (oi := { dst := some 93, op := Op.unOp UnOp.not 4 (Operand.tmp 92), type := 4, pos := "types.go:358", after := #[⟨15, .data⟩, ⟨9, .guard⟩], guard := some (9, true) }) (v := ?v14_16_16) rfl (by kernel_rfl) (fun _ _ _ h => h) (Or.inl ⟨by rfl, ?y14_16_16⟩) (fun _ => hS) ?_
                case y14_16_16 => (intro w hSw; go_simp; try with_reducible rfl)
                try simp only [Act.put, List.setIfInBounds_toArray, List.set_cons_zero, List.set_cons_succ]
                refine wpAnyT_pure (i := 17) (oi := { dst := some 94, op := Op.pick (Operand.tmp 86) (Operand.tmp 93) (Operand.const (Value.bool false)), type := 4, pos := "types.go:358", after := #[⟨9, .data⟩, ⟨16, .data⟩], guard := none }) (v := ?v14_17_17) rfl (by kernel_rfl) (fun _ _ _ h => h) (Or.inl ⟨by rfl, ?y14_17_17⟩) (fun _ => hS) ?_
                case y14_17_17 => (intro w hSw; go_simp; try with_reducible rfl)
                try simp only [Act.put, List.setIfInBounds_toArray, List.set_cons_zero, List.set_cons_succ]
                refine wpAnyT_done (by kernel_rfl) ?_ _
                refine NoPanic.normal ?_
                go_wp2_with fail
                go_roundw
                case rel => exact ⟨j + 1, by omega, by go_num, HK8.out.trans (show Keeps (fun _ => False) W8 _ from (by repeat (first | (with_reducible assumption) | (with_reducible exact Keeps.refl _ _) | (with_reducible refine Keeps.drewN ?_ _) | (with_reducible refine Keeps.drew ?_) | with_reducible refine Keeps.setCell ?_ (by first | (intro _; exact rfl) | (intro _; exact Or.inl rfl) | (intro _; exact Or.inr rfl) | (simp; done) | (simp; omega)) _ | (with_reducible refine Keeps.alloc ?_ _)))) (fun _ _ h => h)⟩
                case measure => simp [intOf]; omega
              exact AllT.nil
            · go_upto_region 14 with (fail)
              rw [HW8.out, HB8.out]
              clear x0 x1 x2 x3 y0 y1 y2 y3
              refine wp_region_noPanic ?_
              refine wp_region_till [] (fun X => X.cell? ⟨b8, 0, none⟩ = some (.int .i64 y.kind) ∧ X.cell? ⟨b8, 1, none⟩ = some (.string y.name) ∧ X.cell? ⟨b8, 2, none⟩ = some (.int .i64 y.var) ∧ X.cell? ⟨b8, 3, none⟩ = some (.slice Ax y.args.length cx) ∧ X.cell? ⟨g5, j * 4, none⟩ = some (.int .i64 y.kind) ∧ X.cell? ⟨g5, j * 4 + 1, none⟩ = some (.string y.name) ∧ X.cell? ⟨g5, j * 4 + 2, none⟩ = some (.int .i64 y.var) ∧ X.cell? ⟨g5, j * 4 + 3, none⟩ = some (.slice Ay y.args.length cy)) (by kernel_rfl) ?_ (fun hE => ?_)
              · exact HQ14.out _ (by repeat (first | (with_reducible assumption) | (with_reducible exact Keeps.refl _ _) | (with_reducible refine Keeps.drewN ?_ _) | (with_reducible refine Keeps.drew ?_) | with_reducible refine Keeps.setCell ?_ (by first | (intro _; exact rfl) | (intro _; exact Or.inl rfl) | (intro _; exact Or.inr rfl) | (simp; done) | (simp; omega)) _ | (with_reducible refine Keeps.alloc ?_ _)))
              have hS := hE (by kernel_rfl)
              refine wpAnyT_pure (i := 0) (oi := { dst := some 77, op := Op.fieldAddr 24 (Operand.tmp 17) 0, type := 0, pos := "types.go:358", after := #[], guard := none }) (v := ?v14_0_1) rfl (by kernel_rfl) (fun _ _ _ h => h) (Or.inl ⟨by rfl, ?y14_0_1⟩) (fun _ => hS) ?_
              case y14_0_1 => (intro w hSw; go_simp; try with_reducible rfl)
              try simp only [Act.put, List.setIfInBounds_toArray, List.set_cons_zero, List.set_cons_succ]
              refine wpAnyT_take (i := 1) (oi := { dst := some 78, op := Op.load 3 (Operand.tmp 77), type := 3, pos := "types.go:358", after := #[⟨0, .data⟩], guard := none }) (v := ?v14_1_2) rfl (by kernel_rfl) (fun _ _ _ h => h) (Or.inl ⟨by rfl, ?y14_1_2⟩) hS ?_
              case y14_1_2 => (intro w hSw; (try dsimp only at hSw); go_simp; try with_reducible rfl)
              try simp only [Act.put, List.setIfInBounds_toArray, List.set_cons_zero, List.set_cons_succ]
              refine wpAnyT_pure (i := 2) (oi := { dst := some 79, op := Op.binOp BinOp.neq 3 (Operand.tmp 78) (Operand.const (Value.int IntKind.i64 0)) 3, type := 4, pos := "types.go:358", after := #[⟨1, .data⟩], guard := none }) (v := (.bool false)) rfl (by kernel_rfl) (fun _ _ _ h => h) (Or.inl ⟨by rfl, ?y14_2_3⟩) (fun _ => hS) ?_
              case y14_2_3 => (intro w hSw; go_simp; try with_reducible rfl)
              try simp only [Act.put, List.setIfInBounds_toArray, List.set_cons_zero, List.set_cons_succ]
              refine wpAnyT_pure (i := 3) (oi := { dst := some 80, op := Op.move (Operand.tmp 79), type := 4, pos := "types.go:358", after := #[⟨2, .data⟩], guard := none }) (v := (.bool false)) rfl (by kernel_rfl) (fun _ _ _ h => h) (Or.inl ⟨by rfl, ?y14_3_4⟩) (fun _ => hS) ?_
              case y14_3_4 => (intro w hSw; go_simp; try with_reducible rfl)
              try simp only [Act.put, List.setIfInBounds_toArray, List.set_cons_zero, List.set_cons_succ]
              refine wpAnyT_pure (i := 4) (oi := { dst := some 81, op := Op.fieldAddr 24 (Operand.tmp 17) 2, type := 0, pos := "types.go:358", after := #[⟨3, .guard⟩], guard := some (3, false) }) (v := ?v14_4_5) rfl (by kernel_rfl) (fun _ _ _ h => h) (Or.inl ⟨by rfl, ?y14_4_5⟩) (fun _ => hS) ?_
              case y14_4_5 => (intro w hSw; go_simp; try with_reducible rfl)
              try simp only [Act.put, List.setIfInBounds_toArray, List.set_cons_zero, List.set_cons_succ]
              refine wpAnyT_take (i := 5) (oi := { dst := some 82, op := Op.load 3 (Operand.tmp 81), type := 3, pos := "types.go:358", after := #[⟨4, .data⟩, ⟨3, .guard⟩], guard := some (3, false) }) (v := ?v14_5_6) rfl (by kernel_rfl) (fun _ _ _ h => h) (Or.inl ⟨by rfl, ?y14_5_6⟩) hS ?_
              case y14_5_6 => (intro w hSw; (try dsimp only at hSw); go_simp; try with_reducible rfl)
              try simp only [Act.put, List.setIfInBounds_toArray, List.set_cons_zero, List.set_cons_succ]
              refine wpAnyT_pure (i := 6) (oi := { dst := some 83, op := Op.move (Operand.tmp 16), type := 3, pos := "types.go:358", after := #[⟨3, .guard⟩], guard := some (3, false) }) (v := ?v14_6_7) rfl (by kernel_rfl) (fun _ _ _ h => h) (Or.inl ⟨by rfl, ?y14_6_7⟩) (fun _ => hS) ?_
              case y14_6_7 => (intro w hSw; go_simp; try with_reducible rfl)
              try simp only [Act.put, List.setIfInBounds_toArray, List.set_cons_zero, List.set_cons_succ]
              refine wpAnyT_pure (i := 7) (oi := { dst := some 84, op := Op.binOp BinOp.neq 3 (Operand.tmp 82) (Operand.tmp 83) 3, type := 4, pos := "types.go:358", after := #[⟨5, .data⟩, ⟨6, .data⟩, ⟨3, .guard⟩], guard := some (3, false) }) (v := ?v14_7_8) rfl (by kernel_rfl) (fun _ _ _ h => h) (Or.inl ⟨by rfl, ?y14_7_8⟩) (fun _ => hS) ?_
              case y14_7_8 => (intro w hSw; go_simp; try with_reducible rfl)
              try simp only [Act.put, List.setIfInBounds_toArray, List.set_cons_zero, List.set_cons_succ]
              refine wpAnyT_pure (i := 8) (oi := { dst := some 85, op := Op.pick (Operand.tmp 80) (Operand.const (Value.bool true)) (Operand.tmp 84), type := 4, pos := "types.go:358", after := #[⟨3, .data⟩, ⟨7, .data⟩], guard := none }) (v := ?v14_8_9) rfl (by kernel_rfl) (fun _ _ _ h => h) (Or.inl ⟨by rfl, ?y14_8_9⟩) (fun _ => hS) ?_
              case y14_8_9 => (intro w hSw; go_simp; try with_reducible rfl)
              try simp only [Act.put, List.setIfInBounds_toArray, List.set_cons_zero, List.set_cons_succ]
              refine wpAnyT_pure (i := 9) (oi := { dst := some 86, op := Op.move (Operand.tmp 85), type := 4, pos := "types.go:358", after := #[⟨8, .data⟩, ⟨3, .chain⟩], guard := none }) (v := ?v14_9_10) rfl (by kernel_rfl) (fun _ _ _ h => h) (Or.inl ⟨by rfl, ?y14_9_10⟩) (fun _ => hS) ?_
              case y14_9_10 => (intro w hSw; go_simp; try with_reducible rfl)
              try simp only [Act.put, List.setIfInBounds_toArray, List.set_cons_zero, List.set_cons_succ]
              refine wpAnyT_take (i := 10) (oi := { dst := some 87, op := Op.load 24 (Operand.tmp 17), type := 24, pos := "types.go:358", after := #[⟨9, .guard⟩], guard := some (9, true) }) (v := ?v14_10_11) rfl (by kernel_rfl) (fun _ _ _ h => h) (Or.inl ⟨by rfl, ?y14_10_11⟩) hS ?_
              case y14_10_11 => (intro w hSw; (try dsimp only at hSw); go_simp; try with_reducible rfl)
              try simp only [Act.put, List.setIfInBounds_toArray, List.set_cons_zero, List.set_cons_succ]
              refine wpAnyT_pure (i := 11) (oi := { dst := some 88, op := Op.move (Operand.tmp 15), type := 25, pos := "types.go:358", after := #[⟨9, .guard⟩], guard := some (9, true) }) (v := ?v14_11_12) rfl (by kernel_rfl) (fun _ _ _ h => h) (Or.inl ⟨by rfl, ?y14_11_12⟩) (fun _ => hS) ?_
              case y14_11_12 => (intro w hSw; go_simp; try with_reducible rfl)
              try simp only [Act.put, List.setIfInBounds_toArray, List.set_cons_zero, List.set_cons_succ]
              refine wpAnyT_pure (i := 12) (oi := { dst := some 89, op := Op.move (Operand.tmp 16), type := 3, pos := "types.go:358", after := #[⟨9, .guard⟩], guard := some (9, true) }) (v := ?v14_12_13) rfl (by kernel_rfl) (fun _ _ _ h => h) (Or.inl ⟨by rfl, ?y14_12_13⟩) (fun _ => hS) ?_
              case y14_12_13 => (intro w hSw; go_simp; try with_reducible rfl)
              try simp only [Act.put, List.setIfInBounds_toArray, List.set_cons_zero, List.set_cons_succ]
              refine wpAnyT_pure (i := 13) (oi := { dst := some 90, op := Op.indexAddr 25 (Operand.tmp 88) (Operand.tmp 89), type := 0, pos := "types.go:358", after := #[⟨11, .data⟩, ⟨12, .data⟩, ⟨9, .guard⟩], guard := some (9, true) }) (v := ?v14_13_14) rfl (by kernel_rfl) (fun _ _ _ h => h) (Or.inl ⟨by rfl, ?y14_13_14⟩) (fun _ => hS) ?_
              case y14_13_14 => (intro w hSw; go_simp; try with_reducible rfl)
              try simp only [Act.put, List.setIfInBounds_toArray, List.set_cons_zero, List.set_cons_succ]
              refine wpAnyT_take (i := 14) (oi := { dst := some 91, op := Op.load 24 (Operand.tmp 90), type := 24, pos := "types.go:358", after := #[⟨13, .data⟩, ⟨9, .guard⟩], guard := some (9, true) }) (v := ?v14_14_15) rfl (by kernel_rfl) (fun _ _ _ h => h) (Or.inl ⟨by rfl, ?y14_14_15⟩) hS ?_
              case y14_14_15 => (intro w hSw; (try dsimp only at hSw); go_simp; try with_reducible rfl)
              try simp only [Act.put, List.setIfInBounds_toArray, List.set_cons_zero, List.set_cons_succ]
              refine wpAnyT_ready (rs := [15]) (by kernel_rfl) rfl ?_
              refine AllT.cons (o := { dst := some 92, op := Op.call { callee := Callee.value (Operand.func 12), args := #[Operand.tmp 87, Operand.tmp 91], argTypes := #[24, 24] }, type := 4, pos := "types.go:358", after := #[⟨10, .data⟩, ⟨14, .data⟩, ⟨9, .chain⟩, ⟨9, .guard⟩], guard := some (9, true) }) rfl (fun K hK => ?_) ?_
              · (rw [if_pos (by rfl)]; (go_simp; go_at_call 12; with_reducible refine (HSm.out _ (by repeat (first | (with_reducible assumption) | (with_reducible exact Keeps.refl _ _) | (with_reducible refine Keeps.drewN ?_ _) | (with_reducible refine Keeps.drew ?_) | with_reducible refine Keeps.setCell ?_ (by first | (intro _; exact rfl) | (intro _; exact Or.inl rfl) | (intro _; exact Or.inr rfl) | (simp; done) | (simp; omega)) _ | (with_reducible refine Keeps.alloc ?_ _)))).mono ?_; rintro e wz ⟨rfl, hkz⟩; go_wp2_with fail))
                refine hK.out _ _ (fun _ => ?_) (fun hE => ?_)
                · exact HQ14.out _ (by repeat (first | (with_reducible assumption) | (with_reducible exact Keeps.refl _ _) | (with_reducible refine Keeps.drewN ?_ _) | (with_reducible refine Keeps.drew ?_) | with_reducible refine Keeps.setCell ?_ (by first | (intro _; exact rfl) | (intro _; exact Or.inl rfl) | (intro _; exact Or.inr rfl) | (simp; done) | (simp; omega)) _ | (with_reducible refine Keeps.alloc ?_ _)))
                have hS := hE (by kernel_rfl)
                clear hK K hE
                try simp only [Act.put, List.setIfInBounds_toArray, List.set_cons_zero, List.set_cons_succ]
                refine wpAnyT_pure (i := 16) (oi := { dst := some 93, op := Op.unOp UnOp.not 4 (Operand.tmp 92), type := 4, pos := "types.go:358", after := #[⟨15, .data⟩, ⟨9, .guard⟩], guard := some (9, true) }) (v := ?v14_16_16) rfl (by kernel_rfl) (fun _ _ _ h => h) (Or.inl ⟨by rfl, ?y14_16_16⟩) (fun _ => hS) ?_
                case y14_16_16 => (intro w hSw; go_simp; try with_reducible rfl)
                try simp only [Act.put, List.setIfInBounds_toArray, List.set_cons_zero, List.set_cons_succ]
                refine wpAnyT_pure (i := 17) (oi := { dst := some 94, op := Op.pick (Operand.tmp 86) (Operand.tmp 93) (Operand.const (Value.bool false)), type := 4, pos := "types.go:358", after := #[⟨9, .data⟩, ⟨16, .data⟩], guard := none }) (v := ?v14_17_17) rfl (by kernel_rfl) (fun _ _ _ h => h) (Or.inl ⟨by rfl, ?y14_17_17⟩) (fun _ => hS) ?_
                case y14_17_17 => (intro w hSw; go_simp; try with_reducible rfl)
                try simp only [Act.put, List.setIfInBounds_toArray, List.set_cons_zero, List.set_cons_succ]
                refine wpAnyT_done (by kernel_rfl) ?_ _
                refine NoPanic.normal ?_
                go_wp2_with fail
                go_roundw
                case rel => exact ⟨j + 1, by omega, by go_num, HK8.out.trans (show Keeps (fun _ => False) W8 _ from (by repeat (first | (with_reducible assumption) | (with_reducible exact Keeps.refl _ _) | (with_reducible refine Keeps.drewN ?_ _) | (with_reducible refine Keeps.drew ?_) | with_reducible refine Keeps.setCell ?_ (by first | (intro _; exact rfl) | (intro _; exact Or.inl rfl) | (intro _; exact Or.inr rfl) | (simp; done) | (simp; omega)) _ | (with_reducible refine Keeps.alloc ?_ _)))) (fun _ _ h => h)⟩
                case measure => simp [intOf]; omega
              exact AllT.nil
        · obtain rfl : j = L1 := by omega
          have kz : ¬ (j : Int) < (j : Int) := by omega
          have HK6 := Lib.hid hkr
          clear hkr hj
          go_wp2_with fail
          have hkc := HK6.out
          refine wp_region_noPanic ?_
          refine wp_region_till [] (fun X => X.cell? ⟨b0, 0, none⟩ = some (.int .i64 a.kind) ∧ X.cell? ⟨b0, 1, none⟩ = some (.string a.name) ∧ X.cell? ⟨b0, 2, none⟩ = some (.int .i64 a.var) ∧ X.cell? ⟨b0, 3, none⟩ = some (.slice Aa a.args.length ca) ∧ X.cell? ⟨b0 + 1, 0, none⟩ = some (.int .i64 b.kind) ∧ X.cell? ⟨b0 + 1, 1, none⟩ = some (.string b.name) ∧ X.cell? ⟨b0 + 1, 2, none⟩ = some (.int .i64 b.var) ∧ X.cell? ⟨b0 + 1, 3, none⟩ = some (.slice Ab b.args.length cb) ∧ X.cell? ⟨b0 + 1 + 1, 0, none⟩ = some (.int .i64 c.kind) ∧ X.cell? ⟨b0 + 1 + 1, 1, none⟩ = some (.string c.name) ∧ X.cell? ⟨b0 + 1 + 1, 2, none⟩ = some (.int .i64 c.var) ∧ X.cell? ⟨b0 + 1 + 1, 3, none⟩ = some (.slice Ac c.args.length cc) ∧ X.cell? ⟨b0 + 1 + 1 + 1, 0, none⟩ = some (.int .i64 d.kind) ∧ X.cell? ⟨b0 + 1 + 1 + 1, 1, none⟩ = some (.string d.name) ∧ X.cell? ⟨b0 + 1 + 1 + 1, 2, none⟩ = some (.int .i64 d.var) ∧ X.cell? ⟨b0 + 1 + 1 + 1, 3, none⟩ = some (.slice Ad d.args.length cd)) (by kernel_rfl) ?_ (fun hE => ?_)
          · exact HQ.out _ (by first | exact hkc | exact hkc.drew)
          have hS := hE (by kernel_rfl)
          refine wpAnyT_pure (i := 0) (oi := { dst := some 96, op := Op.move (Operand.tmp 15), type := 25, pos := "types.go:362", after := #[], guard := none }) (v := ?v17_0_1) rfl (by kernel_rfl) (fun _ _ _ h => h) (Or.inl ⟨by rfl, ?y17_0_1⟩) (fun _ => hS) ?_
          case y17_0_1 => (intro w hSw; go_simp; try with_reducible rfl)
          try simp only [Act.put, List.setIfInBounds_toArray, List.set_cons_zero, List.set_cons_succ]
          refine wpAnyT_take (i := 1) (oi := { dst := some 97, op := Op.load 24 (Operand.tmp 4), type := 24, pos := "types.go:362", after := #[], guard := none }) (v := ?v17_1_2) rfl (by kernel_rfl) (fun _ _ _ h => h) (Or.inl ⟨by rfl, ?y17_1_2⟩) hS ?_
          case y17_1_2 => (intro w hSw; (try dsimp only at hSw); go_simp; try with_reducible rfl)
          try simp only [Act.put, List.setIfInBounds_toArray, List.set_cons_zero, List.set_cons_succ]
          refine wpAnyT_pure (i := 3) (oi := { dst := some 99, op := Op.move (Operand.tmp 15), type := 25, pos := "types.go:362", after := #[], guard := none }) (v := ?v17_3_3) rfl (by kernel_rfl) (fun _ _ _ h => h) (Or.inl ⟨by rfl, ?y17_3_3⟩) (fun _ => hS) ?_
          case y17_3_3 => (intro w hSw; go_simp; try with_reducible rfl)
          try simp only [Act.put, List.setIfInBounds_toArray, List.set_cons_zero, List.set_cons_succ]
          refine wpAnyT_take (i := 4) (oi := { dst := some 100, op := Op.load 24 (Operand.tmp 5), type := 24, pos := "types.go:362", after := #[], guard := none }) (v := ?v17_4_4) rfl (by kernel_rfl) (fun _ _ _ h => h) (Or.inl ⟨by rfl, ?y17_4_4⟩) hS ?_
          case y17_4_4 => (intro w hSw; (try dsimp only at hSw); go_simp; try with_reducible rfl)
          try simp only [Act.put, List.setIfInBounds_toArray, List.set_cons_zero, List.set_cons_succ]
          refine wpAnyT_ready (rs := [2]) (by kernel_rfl) rfl ?_
          refine AllT.cons (o := { dst := some 98, op := Op.call { callee := Callee.value (Operand.func 9), args := #[Operand.tmp 96, Operand.tmp 97], argTypes := #[25, 24] }, type := 24, pos := "types.go:362", after := #[⟨0, .data⟩, ⟨1, .data⟩], guard := none }) rfl (fun K hK => ?_) ?_
          · (go_simp; go_at_call 9; with_reducible refine (HRa.out _ (by first | exact hkc | exact hkc.drew) _ (Keeps.refl _ _)).mono ?_; rintro e wpa ⟨Axa, cxa, rfl, hTxa, hk⟩; (first | replace hkc := hkc.trans hk (fun _ _ h => h) | replace hkc := hkc.drew.trans hk (fun _ _ h => h)); clear hk; go_wp2_with fail)
            refine hK.out _ _ (fun _ => ?_) (fun hE => ?_)
            · exact HQ.out _ (by first | exact hkc | exact hkc.drew)
            have hS := hE (by kernel_rfl)
            clear hK K hE
            try simp only [Act.put, List.setIfInBounds_toArray, List.set_cons_zero, List.set_cons_succ]
            refine wpAnyT_ready (rs := [5]) (by kernel_rfl) rfl ?_
            refine AllT.cons (o := { dst := some 101, op := Op.call { callee := Callee.value (Operand.func 9), args := #[Operand.tmp 99, Operand.tmp 100], argTypes := #[25, 24] }, type := 24, pos := "types.go:362", after := #[⟨3, .data⟩, ⟨4, .data⟩, ⟨2, .chain⟩], guard := none }) rfl (fun K hK => ?_) ?_
            · (go_simp; go_at_call 9; with_reducible refine (HRb.out _ (by first | exact hkc | exact hkc.drew) _ (Keeps.refl _ _)).mono ?_; rintro e wpb ⟨Axb, cxb, rfl, hTxb, hk⟩; (first | replace hkc := hkc.trans hk (fun _ _ h => h) | replace hkc := hkc.drew.trans hk (fun _ _ h => h)); (first | replace hTxa := tyc_all hTxa hk | replace hTxa := tyc_all (tyc_all hTxa (Keeps.refl _ _).drew) hk); clear hk; go_wp2_with fail)
              refine hK.out _ _ (fun _ => ?_) (fun hE => ?_)
              · exact HQ.out _ (by first | exact hkc | exact hkc.drew)
              have hS := hE (by kernel_rfl)
              clear hK K hE
              try simp only [Act.put, List.setIfInBounds_toArray, List.set_cons_zero, List.set_cons_succ]
              refine wpAnyT_ready (rs := [6]) (by kernel_rfl) rfl ?_
              refine AllT.cons (o := { dst := some 102, op := Op.call { callee := Callee.value (Operand.func 12), args := #[Operand.tmp 98, Operand.tmp 101], argTypes := #[24, 24] }, type := 4, pos := "types.go:362", after := #[⟨2, .data⟩, ⟨5, .data⟩, ⟨5, .chain⟩], guard := none }) rfl (fun K hK => ?_) ?_
              · (go_simp; go_at_call 12; with_reducible refine (HSab.out _ _ _ _ _ hTxa hTxb _ (by first | exact Keeps.refl _ _ | exact (Keeps.refl _ _).drew)).mono ?_; rintro e wsa ⟨rfl, hk⟩; (first | replace hkc := hkc.trans hk (fun _ _ h => h)); clear hk hTxa hTxb; go_wp2_with fail)
                refine hK.out _ _ (fun _ => ?_) (fun hE => ?_)
                · exact HQ.out _ (by first | exact hkc | exact hkc.drew)
                have hS := hE (by kernel_rfl)
                clear hK K hE
                try simp only [Act.put, List.setIfInBounds_toArray, List.set_cons_zero, List.set_cons_succ]
                refine wpAnyT_pure (i := 7) (oi := { dst := some 103, op := Op.move (Operand.tmp 102), type := 4, pos := "types.go:362", after := #[⟨6, .data⟩, ⟨6, .chain⟩], guard := none }) (v := ?v17_7_5) rfl (by kernel_rfl) (fun _ _ _ h => h) (Or.inl ⟨by rfl, ?y17_7_5⟩) (fun _ => hS) ?_
                case y17_7_5 => (intro w hSw; go_simp; try with_reducible rfl)
                try simp only [Act.put, List.setIfInBounds_toArray, List.set_cons_zero, List.set_cons_succ]
                refine wpAnyT_pure (i := 8) (oi := { dst := some 104, op := Op.move (Operand.tmp 15), type := 25, pos := "types.go:362", after := #[⟨7, .guard⟩], guard := some (7, true) }) (v := ?v17_8_6) rfl (by kernel_rfl) (fun _ _ _ h => h) (Or.inl ⟨by rfl, ?y17_8_6⟩) (fun _ => hS) ?_
                case y17_8_6 => (intro w hSw; go_simp; try with_reducible rfl)
                try simp only [Act.put, List.setIfInBounds_toArray, List.set_cons_zero, List.set_cons_succ]
                refine wpAnyT_take (i := 9) (oi := { dst := some 105, op := Op.load 24 (Operand.tmp 6), type := 24, pos := "types.go:362", after := #[⟨7, .guard⟩], guard := some (7, true) }) (v := ?v17_9_7) rfl (by kernel_rfl) (fun _ _ _ h => h) (Or.inl ⟨by rfl, ?y17_9_7⟩) hS ?_
                case y17_9_7 => (intro w hSw; (try dsimp only at hSw); go_simp; try with_reducible rfl)
                try simp only [Act.put, List.setIfInBounds_toArray, List.set_cons_zero, List.set_cons_succ]
                refine wpAnyT_pure (i := 11) (oi := { dst := some 107, op := Op.move (Operand.tmp 15), type := 25, pos := "types.go:362", after := #[⟨7, .guard⟩], guard := some (7, true) }) (v := ?v17_11_8) rfl (by kernel_rfl) (fun _ _ _ h => h) (Or.inl ⟨by rfl, ?y17_11_8⟩) (fun _ => hS) ?_
                case y17_11_8 => (intro w hSw; go_simp; try with_reducible rfl)
                try simp only [Act.put, List.setIfInBounds_toArray, List.set_cons_zero, List.set_cons_succ]
                refine wpAnyT_take (i := 12) (oi := { dst := some 108, op := Op.load 24 (Operand.tmp 7), type := 24, pos := "types.go:362", after := #[⟨7, .guard⟩], guard := some (7, true) }) (v := ?v17_12_9) rfl (by kernel_rfl) (fun _ _ _ h => h) (Or.inl ⟨by rfl, ?y17_12_9⟩) hS ?_
                case y17_12_9 => (intro w hSw; (try dsimp only at hSw); go_simp; try with_reducible rfl)
                try simp only [Act.put, List.setIfInBounds_toArray, List.set_cons_zero, List.set_cons_succ]
                refine wpAnyT_ready (rs := [10]) (by kernel_rfl) rfl ?_
                refine AllT.cons (o := { dst := some 106, op := Op.call { callee := Callee.value (Operand.func 9), args := #[Operand.tmp 104, Operand.tmp 105], argTypes := #[25, 24] }, type := 24, pos := "types.go:362", after := #[⟨8, .data⟩, ⟨9, .data⟩, ⟨7, .chain⟩, ⟨7, .guard⟩], guard := some (7, true) }) rfl (fun K hK => ?_) ?_
                · (rw [if_pos (by rfl)]; (go_simp; go_at_call 9; with_reducible refine (HRc.out _ (by first | exact hkc | exact hkc.drew) _ (Keeps.refl _ _)).mono ?_; rintro e wpc ⟨Axc, cxc, rfl, hTxc, hk⟩; (first | replace hkc := hkc.trans hk (fun _ _ h => h) | replace hkc := hkc.drew.trans hk (fun _ _ h => h)); clear hk; go_wp2_with fail))
                  refine hK.out _ _ (fun _ => ?_) (fun hE => ?_)
                  · exact HQ.out _ (by first | exact hkc | exact hkc.drew)
                  have hS := hE (by kernel_rfl)
                  clear hK K hE
                  try simp only [Act.put, List.setIfInBounds_toArray, List.set_cons_zero, List.set_cons_succ]
                  refine wpAnyT_ready (rs := [13]) (by kernel_rfl) rfl ?_
                  refine AllT.cons (o := { dst := some 109, op := Op.call { callee := Callee.value (Operand.func 9), args := #[Operand.tmp 107, Operand.tmp 108], argTypes := #[25, 24] }, type := 24, pos := "types.go:362", after := #[⟨11, .data⟩, ⟨12, .data⟩, ⟨10, .chain⟩, ⟨7, .guard⟩], guard := some (7, true) }) rfl (fun K hK => ?_) ?_
                  · (rw [if_pos (by rfl)]; (go_simp; go_at_call 9; with_reducible refine (HRd.out _ (by first | exact hkc | exact hkc.drew) _ (Keeps.refl _ _)).mono ?_; rintro e wpd ⟨Axd, cxd, rfl, hTxd, hk⟩; (first | replace hkc := hkc.trans hk (fun _ _ h => h) | replace hkc := hkc.drew.trans hk (fun _ _ h => h)); (first | replace hTxc := tyc_all hTxc hk | replace hTxc := tyc_all (tyc_all hTxc (Keeps.refl _ _).drew) hk); clear hk; go_wp2_with fail))
                    refine hK.out _ _ (fun _ => ?_) (fun hE => ?_)
                    · exact HQ.out _ (by first | exact hkc | exact hkc.drew)
                    have hS := hE (by kernel_rfl)
                    clear hK K hE
                    try simp only [Act.put, List.setIfInBounds_toArray, List.set_cons_zero, List.set_cons_succ]
                    refine wpAnyT_ready (rs := [14]) (by kernel_rfl) rfl ?_
                    refine AllT.cons (o := { dst := some 110, op := Op.call { callee := Callee.value (Operand.func 12), args := #[Operand.tmp 106, Operand.tmp 109], argTypes := #[24, 24] }, type := 4, pos := "types.go:362", after := #[⟨10, .data⟩, ⟨13, .data⟩, ⟨13, .chain⟩, ⟨7, .guard⟩], guard := some (7, true) }) rfl (fun K hK => ?_) ?_
                    · (rw [if_pos (by rfl)]; (go_simp; go_at_call 12; with_reducible refine (HScd.out _ _ _ _ _ hTxc hTxd _ (by first | exact Keeps.refl _ _ | exact (Keeps.refl _ _).drew)).mono ?_; rintro e wsb ⟨rfl, hk⟩; (first | replace hkc := hkc.trans hk (fun _ _ h => h)); clear hk hTxc hTxd; go_wp2_with fail))
                      refine hK.out _ _ (fun _ => ?_) (fun hE => ?_)
                      · exact HQ.out _ (by first | exact hkc | exact hkc.drew)
                      have hS := hE (by kernel_rfl)
                      clear hK K hE
                      try simp only [Act.put, List.setIfInBounds_toArray, List.set_cons_zero, List.set_cons_succ]
                      refine wpAnyT_pure (i := 15) (oi := { dst := some 111, op := Op.pick (Operand.tmp 103) (Operand.tmp 110) (Operand.const (Value.bool false)), type := 4, pos := "types.go:362", after := #[⟨7, .data⟩, ⟨14, .data⟩], guard := none }) (v := ?v17_15_10) rfl (by kernel_rfl) (fun _ _ _ h => h) (Or.inl ⟨by rfl, ?y17_15_10⟩) (fun _ => hS) ?_
                      case y17_15_10 => (intro w hSw; go_simp; try with_reducible rfl)
                      try simp only [Act.put, List.setIfInBounds_toArray, List.set_cons_zero, List.set_cons_succ]
                      refine wpAnyT_ready (rs := [16]) (by kernel_rfl) rfl ?_
                      refine AllT.cons (o := { dst := some 8, op := Op.assign (Operand.tmp 111), type := 4, pos := "types.go:362", after := #[⟨15, .data⟩, ⟨14, .chain⟩, ⟨0, .phase⟩, ⟨1, .phase⟩, ⟨2, .phase⟩, ⟨3, .phase⟩, ⟨4, .phase⟩, ⟨5, .phase⟩, ⟨6, .phase⟩, ⟨7, .phase⟩, ⟨8, .phase⟩, ⟨9, .phase⟩, ⟨10, .phase⟩, ⟨11, .phase⟩, ⟨12, .phase⟩, ⟨13, .phase⟩, ⟨14, .phase⟩, ⟨15, .phase⟩], guard := none }) rfl (fun K hK => ?_) ?_
                      · go_simp
                        refine hK.out _ _ (fun _ => ?_) (fun hE => ?_)
                        · exact HQ.out _ (by first | exact hkc | exact hkc.drew)
                        have hS := hE (by kernel_rfl)
                        clear hK K hE
                        try simp only [Act.put, List.setIfInBounds_toArray, List.set_cons_zero, List.set_cons_succ]
                        refine wpAnyT_done (by kernel_rfl) ?_ _
                        refine NoPanic.normal ?_
                        go_wp2_with fail
                        go_ret
                        exact ⟨rfl, ((HK3.out.trans HK5.out (fun _ _ h => h)).trans hkc (fun _ _ h => h)).below (fun _ h => h.elim) (Nat.le_refl _)⟩
                      exact AllT.nil
                    exact AllT.nil
                  exact AllT.nil
                exact AllT.nil
              exact AllT.nil
            exact AllT.nil
          exact AllT.nil

theorem own : ownKnob Tryd.prog.godebug = none := by kernel_rfl
theorem gSizes : Tryd.prog.globalNamed "provenance/unify.sizes" = some 0 := by kernel_rfl
theorem szs_of_laid {W : World} (h : laidMetH Tryd.prog Rows.unifyExtendsRow.laid W) : Szs W := by
  have h2 : laidMetH Tryd.prog [("provenance/unify.sizes", Lib.tabData .i64 [0, -1, 3, 1, 0, 2])] W := h
  rw [MakeChecks.laidMetH_plain _ _ _ (by kernel_rfl)] at h2
  have ht := Lib.tabIs_of_head gSizes (by kernel_rfl) Tryd.underlying51 Tryd.underlying3 (by kernel_rfl) (by kernel_rfl) h2
  unfold Lib.TabIs at ht
  exact ⟨by rw [World.var?_cell gSizes ht]; rfl, by rw [World.var?_cell gSizes ht]; rfl, by rw [World.var?_cell gSizes ht]; rfl, by rw [World.var?_cell gSizes ht]; rfl, by rw [World.var?_cell gSizes ht]; rfl, by rw [World.var?_cell gSizes ht]; rfl⟩

theorem laid : laidOutB Tryd.prog = true := by kernel_rfl

set_option maxRecDepth 100000 in
theorem lifted (os : Os) (started : os.Started) (H : Type) (enc : TypeId × Value → H) :
    ReturnsInHanded {} Tryd.checked os 5 .any (fun w args => (Rows.unifyExtendsSpec.pre enc Tryd.prog Tryd.f5 [] false w args ∧ laidMetH Tryd.prog Rows.unifyExtendsRow.laid w) ∧ sizedMet enc Tryd.prog Tryd.f5 (OpenSpec.ofChange Rows.unifyExtendsSpec) false w args)
      (Rows.unifyExtendsSpec.post enc Tryd.prog Tryd.f5 false true false false) := by
  refine handed_shaped_laid (C := Tryd.checked) (L := Rows.unifyExtendsRow.laid) own started (by kernel_rfl) Tryd.func5
    (ChangeSpec.witness_shaped (enc := enc) (C := Tryd.checked) (os := os) (X := fun w _ => laidMetH Tryd.prog Rows.unifyExtendsRow.laid w) false (World.laidAll Tryd.prog os Rows.unifyExtendsRow.laid) #[.agg #[.int .i64 0, .string ⟨#[]⟩, .int .i64 0, .slice none 0 0], .agg #[.int .i64 0, .string ⟨#[]⟩, .int .i64 0, .slice none 0 0], .agg #[.int .i64 0, .string ⟨#[]⟩, .int .i64 0, .slice none 0 0], .agg #[.int .i64 0, .string ⟨#[]⟩, .int .i64 0, .slice none 0 0]] 8 (World.laidAll_os _ _ _)
      (World.shaped_of_ZipB (by kernel_rfl) (by kernel_rfl)) (by kernel_rfl) (by kernel_rfl) (by kernel_rfl)
      (by rw [MakeChecks.laidMetH_plain _ _ _ (by kernel_rfl)]; exact laidMet_laidAll _ (by kernel_rfl) (by kernel_rfl))) ?_
  intro W base args ds gs before hval0 hW hsz0 _ hlaid
  have hz := szs_of_laid hlaid
  have hval : ∀ (j : Nat) t v, Tryd.f5.params[j]? = some t → args[j]? = some v → Value.okWide Tryd.prog W .any base t v := hval0
  have hW' := hW
  obtain ⟨p, q, hA0, hV, hbef, hfz, hnd⟩ := hW
  have hA : DataW.TrodAll enc Tryd.prog W 0 (fun _ => true) true Tryd.f5.params.toList args.toList ds p := hA0
  rw [Tryd.params5] at hA hval
  obtain ⟨v0, vs0, d0, ds0, p0, q0, hargs, hds, rfl, h0, r0⟩ := trodAll_cons hA
  obtain ⟨v1, vs1, d1, ds1, p1, q1, rfl, rfl, rfl, h1, r1⟩ := trodAll_cons r0
  obtain ⟨v2, vs2, d2, ds2, p2, q2, rfl, rfl, rfl, h2, r2⟩ := trodAll_cons r1
  obtain ⟨v3, vs3, d3, ds3, p3, q3, rfl, rfl, rfl, h3, r3⟩ := trodAll_cons r2
  obtain ⟨rfl, rfl, rfl⟩ := trodAll_nil r3
  obtain rfl : args = #[v0, v1, v2, v3] := by cases args; simp_all
  obtain ⟨rfl, _⟩ := trodVars_none hV
  subst hds
  obtain ⟨a0, c0, rfl, s0⟩ := rp_of_arg (f := tyD) Tryd.underlying24 (fun _ _ _ h => tyD.of_trod _ h) (hval 0 24 v0 rfl rfl) h0
  obtain ⟨av0, rfl, T0⟩ := tyD.rp.1 s0
  obtain ⟨a1, c1, rfl, s1⟩ := rp_of_arg (f := tyD) Tryd.underlying24 (fun _ _ _ h => tyD.of_trod _ h) (hval 1 24 v1 rfl rfl) h1
  obtain ⟨av1, rfl, T1⟩ := tyD.rp.1 s1
  obtain ⟨a2, c2, rfl, s2⟩ := rp_of_arg (f := tyD) Tryd.underlying24 (fun _ _ _ h => tyD.of_trod _ h) (hval 2 24 v2 rfl rfl) h2
  obtain ⟨av2, rfl, T2⟩ := tyD.rp.1 s2
  obtain ⟨a3, c3, rfl, s3⟩ := rp_of_arg (f := tyD) Tryd.underlying24 (fun _ _ _ h => tyD.of_trod _ h) (hval 3 24 v3 rfl rfl) h3
  obtain ⟨av3, rfl, T3⟩ := tyD.rp.1 s3
  refine (walk a0 a1 a2 a3 av0 av1 av2 av3 W T0 T1 T2 T3 hz).mono fun e W' ⟨he, hb⟩ => ?_
  subst he
  exact ⟨_, rfl, law_post laid (by kernel_rfl) rfl Tryd.underlying4 rfl rfl rfl rfl hW' hb⟩

theorem over : Rows.unifyExtendsRow.holds Tryd.pinned (OpenSpec.ofChange Rows.unifyExtendsSpec) :=
  OpenClaim.holds_of_wide 5 Tryd.f5 rfl rfl rfl rfl rfl rfl rfl ⟨rfl, rfl, rfl, rfl, rfl⟩ rfl rfl rfl rfl rfl (by kernel_rfl) Tryd.func5 (by kernel_rfl)
    (of_decide_eq_true (by kernel_rfl)) (by unfold Func.isWrapper; first | (rw [if_pos (by decide +kernel)]; kernel_rfl) | (rw [if_neg (by decide +kernel)]; exact ⟨rfl, rfl⟩))
    (fun os started H enc _ => lifted os started H enc)

theorem proved : Rows.UnifyExtendsCardSaid :=
  Claim7.holds_tied_plain_at .later [] [.data] true Rows.unifyExtendsCard.stood.harness false over (fun _ h => by cases h) (by kernel_rfl) (fun _ h => by cases h) unifyExtends_row_tie rfl ⟨rfl, rfl⟩ (by kernel_rfl) rfl
    (fun f fn hf hfn => by
      obtain rfl : f = 5 := Option.some.inj ((show Tryd.prog.funcNamed Tryd.f5.name = some 5 by kernel_rfl).symm.trans hf) |>.symm
      obtain rfl : fn = Tryd.f5 := (Option.some.inj (Tryd.func5.symm.trans hfn)).symm
      exact ⟨by kernel_rfl, fun j t ht => by
        rw [Tryd.params5] at ht
        have hm : t ∈ [24] := by simpa using Array.mem_of_getElem? ht
        have hall : ([24].all fun u => !Tryd.prog.wantsStandIn u) = true := by kernel_rfl
        exact (show Tryd.prog.wantsStandIn t = false by simpa using List.all_eq_true.1 hall t hm)⟩)
    (by kernel_rfl)
#print axioms proved
end Go.Proofs.YthchnabhbpdfgaaDoor.unifyExtends

