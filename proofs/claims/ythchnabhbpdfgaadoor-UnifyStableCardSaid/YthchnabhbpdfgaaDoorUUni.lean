/- unify.unify. -/
import Derived.Test.YthchnabhbpdfgaaDoorURows
namespace Go.Proofs.YthchnabhbpdfgaaDoor
open Go.RowKit Go.Shelf

theorem unifyL_nil (f : List Ty → Ty → Ty → Option (Int × List Ty)) (m : List Ty) (σ : List Ty) : unifyL f [] m σ = some (0, σ) := by cases m <;> rfl
/-- Eight stores into two blocks. -/
theorem eight {w : World} {g h : Nat} {t u : TypeId} {a b c d a' b' c' d' : Value} (hg : Blk w g t [a, b, c, d]) (hh : Blk w h u [a', b', c', d']) (hne : g ≠ h) (u0 u1 u2 u3 v0 v1 v2 v3 : Value) {w8 : World}
    (e : (((((((((w.setCell ⟨g, 0, none⟩ u0).setCell ⟨g, 1, none⟩ u1).setCell ⟨g, 2, none⟩ u2).setCell ⟨g, 3, none⟩ u3).setCell ⟨h, 0, none⟩ v0).setCell ⟨h, 1, none⟩ v1).setCell ⟨h, 2, none⟩ v2).setCell ⟨h, 3, none⟩ v3)) = w8) :
    Blk w8 g t [u0, u1, u2, u3] ∧ Blk w8 h u [v0, v1, v2, v3] ∧ Keeps (fun i => i = g ∨ i = h) w w8 := by
  subst e
  obtain ⟨hA, hKA⟩ := four hg u0 u1 u2 u3
  obtain ⟨hC, hKC⟩ := four (hh.keeps hKA (fun e => hne e.symm)) v0 v1 v2 v3
  exact ⟨hA.keeps hKC hne, hC, (hKA.mono (Y := fun i => i = g ∨ i = h) (fun i _ h => .inl h)).trans (hKC.mono (Y := fun i => i = g ∨ i = h) (fun i _ h => .inr h)) (fun _ _ h => h)⟩
theorem eight' {w : World} {g h : Nat} {t u : TypeId} {a b c d a' b' c' d' : Value} (hg : Blk w g t [a, b, c, d]) (hh : Blk w h u [a', b', c', d']) (hne : g ≠ h) (u0 u1 u2 u3 v0 v1 v2 v3 : Value) {w8 : World}
    (e : (((((((((w.setCell ⟨h, 0, none⟩ v0).setCell ⟨h, 1, none⟩ v1).setCell ⟨h, 2, none⟩ v2).setCell ⟨h, 3, none⟩ v3).setCell ⟨g, 0, none⟩ u0).setCell ⟨g, 1, none⟩ u1).setCell ⟨g, 2, none⟩ u2).setCell ⟨g, 3, none⟩ u3)) = w8) :
    Blk w8 g t [u0, u1, u2, u3] ∧ Blk w8 h u [v0, v1, v2, v3] ∧ Keeps (fun i => i = g ∨ i = h) w w8 := by
  obtain ⟨h1, h2, h3⟩ := eight hh hg (fun e => hne e.symm) v0 v1 v2 v3 u0 u1 u2 u3 e
  exact ⟨h2, h1, h3.mono (fun i _ h => h.symm)⟩

set_option maxRecDepth 100000 in
set_option maxHeartbeats 40000000 in
/-- The first statement: both types are walked, in whatever order. -/
theorem uni_step (k q : Nat) (ih : ∀ m, q = m + 1 → UniAt k m) : UniAt k q := by
  intro F W p sv g σ a b av bv r σ' hU hn hTa hTb hVa hVb hr
  cases q with
  | zero => cases hr
  | succ q =>
  obtain ⟨cap, rfl, hlc, hcm⟩ := hU.form
  obtain ⟨A1, c1, rfl, hlc1, hcm1, _⟩ := hTa.form
  obtain ⟨A2, c2, rfl, hlc2, hcm2, _⟩ := hTb.form
  obtain ⟨b0, hb0⟩ : ∃ b0, W.heap.size = b0 := ⟨_, rfl⟩
  obtain ⟨W0, hW0⟩ : ∃ W0, (W.alloc (.cells #[.int .i64 a.kind, .string a.name, .int .i64 a.var, .slice A1 a.args.length c1] 24)).alloc (.cells #[.int .i64 b.kind, .string b.name, .int .i64 b.var, .slice A2 b.args.length c2] 24) = W0 := ⟨_, rfl⟩
  have hk0 : Keeps (fun _ => False) W W0 := by rw [← hW0]; exact ((Keeps.refl _ _).alloc _).alloc _
  have hA3 : Blk W0 b0 24 [.int .i64 a.kind, .string a.name, .int .i64 a.var, .slice A1 a.args.length c1] := by
    rw [← hW0, ← hb0]; exact (Blk.new W _ [_, _, _, _]).alloc _
  have hB3 : Blk W0 (b0 + 1) 24 [.int .i64 b.kind, .string b.name, .int .i64 b.var, .slice A2 b.args.length c2] := by
    have := Blk.new (W.alloc (.cells #[.int .i64 a.kind, .string a.name, .int .i64 a.var, .slice A1 a.args.length c1] 24)) 24 [.int .i64 b.kind, .string b.name, .int .i64 b.var, .slice A2 b.args.length c2]
    rw [hW0] at this
    simpa [hb0] using this
  have hU0 := hU.keeps hk0 (fun h => h) (fun h => h) (fun _ _ h => h)
  have hbw0 : Below W.heap.size W W0 := hk0.below (fun _ h => h.elim) (Nat.le_refl _)
  have hpl := hU.blk.lt
  have hgl := hU.glt
  have hpb : p ≠ b0 := by omega
  have hpb1 : p ≠ b0 + 1 := by omega
  have hgb : g ≠ b0 := by omega
  have hgb1 : g ≠ b0 + 1 := by omega
  have hpb' : p < b0 := by omega
  rw [unifyP] at hr
  cases hwa : walkP σ k a with
  | none => rw [hwa] at hr; cases hr
  | some a1 =>
  cases hwb : walkP σ k b with
  | none => rw [hwa, hwb] at hr; cases hr
  | some b1 =>
  rw [hwa, hwb] at hr
  dsimp only at hr
  have HWa := Lib.hid (fun X (hb : Below W0.heap.size W0 X) => hU.walk (hbw0.trans (hb.mono hbw0.size)) k a a1 _ (hTa.below (fun b hb => (hU.im b hb).1) (hbw0.trans (hb.mono hbw0.size))) hVa hwa)
  have HWb := Lib.hid (fun X (hb : Below W0.heap.size W0 X) => hU.walk (hbw0.trans (hb.mono hbw0.size)) k b b1 _ (hTb.below (fun b hb => (hU.im b hb).1) (hbw0.trans (hb.mono hbw0.size))) hVb hwb)
  unfold tyV at HWa HWb
  have hVa1 := walkP_in σ hU.inn k a a1 hVa hwa
  have hVb1 := walkP_in σ hU.inn k b b1 hVb hwb
  have t0 := hA3.cell (i := 0) rfl
  have t1' := hA3.cell (i := 1) rfl
  have t2 := hA3.cell (i := 2) rfl
  have t3 := hA3.cell (i := 3) rfl
  have s0 := hB3.cell (i := 0) rfl
  have s1 := hB3.cell (i := 1) rfl
  have s2 := hB3.cell (i := 2) rfl
  have s3 := hB3.cell (i := 3) rfl
  have p0 := hU0.blk.cell (i := 0) rfl
  have hb0l := hB3.lt
  have hp0l := hU0.blk.lt
  have HIH := Lib.hid (ih q rfl)
  have HU := Lib.hid hU
  have HU0 := Lib.hid hU0
  have HK0 := Lib.hid hk0
  have HBw := Lib.hid hbw0
  have HB0 := Lib.hid hb0
  have HW0 := Lib.hid hW0
  have HA3 := Lib.hid hA3
  have HB3 := Lib.hid hB3
  have HR := Lib.hid hr
  have HVa1 := Lib.hid hVa1
  have HVb1 := Lib.hid hVb1
  have HN := Lib.hid hn
  unfold tyV
  clear hU hU0 hk0 hb0 hW0 hA3 hB3 hr hTa hTb hVa hVb hVa1 hVb1 hwa hwb hbw0 ih hn
  go_enter Tryd.func29, Tryd.ntmps29
  go_wp2_with fail
  rw [HW0.out, HB0.out]
  go_upto_region 1 with fail
  go_cut [4, 5] (fun s4 s5 wc => ∃ tv uv, s4 = .pointer (some ⟨b0, 0, none⟩) ∧ s5 = .pointer (some ⟨b0 + 1, 0, none⟩) ∧ Blk wc b0 24 [.int .i64 a1.kind, .string a1.name, .int .i64 a1.var, tv] ∧ Blk wc (b0 + 1) 24 [.int .i64 b1.kind, .string b1.name, .int .i64 b1.var, uv] ∧ TyC wc F a1 tv ∧ TyC wc F b1 uv ∧ Below W.heap.size W wc)
  case first =>
    go_region_law (first
      | (go_simp; go_at_call 19; (with_reducible refine (HWa.out _ (by repeat (first | (with_reducible assumption) | (with_reducible exact Below.refl _ _) | (with_reducible refine Below.drewN ?_ _) | (with_reducible refine Below.drew ?_) | with_reducible refine Below.setCell ?_ (by first | exact Nat.le_refl _ | (simp; done) | (simp; omega)) _ | with_reducible refine Below.alloc ?_ (by first | exact Nat.le_refl _ | omega | (simp; done) | (simp; omega)) _))).mono ?_); rintro e wa ⟨tva, rfl, hTa, hba⟩; obtain ⟨A7, c7, rfl, _⟩ := hTa.form; unfold tyV; have hwZ : Below W0.heap.size W0 wa := Below.trans (by repeat (first | (with_reducible assumption) | (with_reducible exact Below.refl _ _) | (with_reducible refine Below.drewN ?_ _) | (with_reducible refine Below.drew ?_) | with_reducible refine Below.setCell ?_ (by first | exact Nat.le_refl _ | (simp; done) | (simp; omega)) _ | with_reducible refine Below.alloc ?_ (by first | exact Nat.le_refl _ | omega | (simp; done) | (simp; omega)) _)) (hba.mono (by first | (simp; done) | exact Below.size (B := W0.heap.size) (by repeat (first | (with_reducible assumption) | (with_reducible exact Below.refl _ _) | (with_reducible refine Below.drewN ?_ _) | (with_reducible refine Below.drew ?_) | with_reducible refine Below.setCell ?_ (by first | exact Nat.le_refl _ | (simp; done) | (simp; omega)) _ | with_reducible refine Below.alloc ?_ (by first | exact Nat.le_refl _ | omega | (simp; done) | (simp; omega)) _)))); have hBa := HA3.out.later hwZ; have hBb := HB3.out.later hwZ; have k0 := hBa.cell (i := 0) rfl; have k1 := hBa.cell (i := 1) rfl; have k2 := hBa.cell (i := 2) rfl; have k3 := hBa.cell (i := 3) rfl; have m0 := hBa.free 0; have m1 := hBa.free 1; have m2 := hBa.free 2; have m3 := hBa.free 3; have n0 := hBb.cell (i := 0) rfl; have n1 := hBb.cell (i := 1) rfl; have n2 := hBb.cell (i := 2) rfl; have n3 := hBb.cell (i := 3) rfl; have q0 := hBb.free 0; have q1 := hBb.free 1; have q2 := hBb.free 2; have q3 := hBb.free 3; have p0 := (HU0.out.blk.later hwZ).cell (i := 0) rfl; have hpz := (HU0.out.blk.later hwZ).lt; go_wp2_with fail)
      | (go_simp; go_at_call 19; (with_reducible refine (HWb.out _ (by repeat (first | (with_reducible assumption) | (with_reducible exact Below.refl _ _) | (with_reducible refine Below.drewN ?_ _) | (with_reducible refine Below.drew ?_) | with_reducible refine Below.setCell ?_ (by first | exact Nat.le_refl _ | (simp; done) | (simp; omega)) _ | with_reducible refine Below.alloc ?_ (by first | exact Nat.le_refl _ | omega | (simp; done) | (simp; omega)) _))).mono ?_); rintro e wb ⟨tvb, rfl, hTb, hbb⟩; obtain ⟨A8, c8, rfl, _⟩ := hTb.form; unfold tyV; have hwZ : Below W0.heap.size W0 wb := Below.trans (by repeat (first | (with_reducible assumption) | (with_reducible exact Below.refl _ _) | (with_reducible refine Below.drewN ?_ _) | (with_reducible refine Below.drew ?_) | with_reducible refine Below.setCell ?_ (by first | exact Nat.le_refl _ | (simp; done) | (simp; omega)) _ | with_reducible refine Below.alloc ?_ (by first | exact Nat.le_refl _ | omega | (simp; done) | (simp; omega)) _)) (hbb.mono (by first | (simp; done) | exact Below.size (B := W0.heap.size) (by repeat (first | (with_reducible assumption) | (with_reducible exact Below.refl _ _) | (with_reducible refine Below.drewN ?_ _) | (with_reducible refine Below.drew ?_) | with_reducible refine Below.setCell ?_ (by first | exact Nat.le_refl _ | (simp; done) | (simp; omega)) _ | with_reducible refine Below.alloc ?_ (by first | exact Nat.le_refl _ | omega | (simp; done) | (simp; omega)) _)))); have hBa := HA3.out.later hwZ; have hBb := HB3.out.later hwZ; have k0 := hBa.cell (i := 0) rfl; have k1 := hBa.cell (i := 1) rfl; have k2 := hBa.cell (i := 2) rfl; have k3 := hBa.cell (i := 3) rfl; have m0 := hBa.free 0; have m1 := hBa.free 1; have m2 := hBa.free 2; have m3 := hBa.free 3; have n0 := hBb.cell (i := 0) rfl; have n1 := hBb.cell (i := 1) rfl; have n2 := hBb.cell (i := 2) rfl; have n3 := hBb.cell (i := 3) rfl; have q0 := hBb.free 0; have q1 := hBb.free 1; have q2 := hBb.free 2; have q3 := hBb.free 3; have p0 := (HU0.out.blk.later hwZ).cell (i := 0) rfl; have hpz := (HU0.out.blk.later hwZ).lt; go_wp2_with fail))
    all_goals
      clear k0 k1 k2 k3 m0 m1 m2 m3 n0 n1 n2 n3 q0 q1 q2 q3 p0 hpz
      go_wp2_with fail
      generalize hw8 : World.setCell _ _ _ = w8
      have hz := HB0.out
      have hbz : Below W.heap.size W _ := HBw.out.trans (hwZ.mono HBw.out.size)
      have he := (by first | exact eight hBa hBb (by omega) _ _ _ _ _ _ _ _ hw8 | exact eight' hBa hBb (by omega) _ _ _ _ _ _ _ _ hw8 : _ ∧ _ ∧ _)
      obtain ⟨e1, e2, e3⟩ := he
      have hTa2 := (by first | exact hTa.keeps e3 (fun i hi h => by have := (HU.out.im i hi).1; omega) | exact (hTa.later hbb).keeps e3 (fun i hi h => by have := (HU.out.im i hi).1; omega) : TyC w8 F a1 _)
      have hTb2 := (by first | exact hTb.keeps e3 (fun i hi h => by have := (HU.out.im i hi).1; omega) | exact (hTb.later hba).keeps e3 (fun i hi h => by have := (HU.out.im i hi).1; omega) : TyC w8 F b1 _)
      go_meet
      exact ⟨_, _, rfl, rfl, e1, e2, hTa2, hTb2, hbz.trans (e3.below (fun i h => by omega) hbz.size)⟩
  case rest =>
    obtain ⟨tv, uv, rfl, rfl, hba, hbb, hTa, hTb, hbw⟩ := hcut
    obtain ⟨A7, c7, rfl, hlc7, hcm7, _⟩ := hTa.form
    obtain ⟨A8, c8, rfl, hlc8, hcm8, _⟩ := hTb.form
    have t0 := hba.cell (i := 0) rfl
    have t1 := hba.cell (i := 1) rfl
    have t2 := hba.cell (i := 2) rfl
    have t3 := hba.cell (i := 3) rfl
    have s0 := hbb.cell (i := 0) rfl
    have s1 := hbb.cell (i := 1) rfl
    have s2 := hbb.cell (i := 2) rfl
    have s3 := hbb.cell (i := 3) rfl
    have HBa := Lib.hid hba
    have HBb := Lib.hid hbb
    have HTa := Lib.hid hTa
    have HTb := Lib.hid hTb
    have HBc := Lib.hid hbw
    have hU1 := HU.out.later hbw
    have hN := HN.out
    by_cases hka : a1.kind = 0
    · have hr1 := HR.out
      rw [if_pos hka] at hr1
      obtain ⟨hv0, hv1⟩ := HVa1.out a1.var (by rw [freeP_var hka]; simp)
      obtain ⟨j, hj⟩ : ∃ j : Nat, a1.var = (j : Int) := ⟨a1.var.toNat, by omega⟩
      rw [hj] at hr1 t2
      rw [hka] at t0
      have hyp := bind_any k F wc p _ g σ hU1 (by omega) j (by omega) b1 _ hTb HVb1.out r σ' hr1
      unfold tyV at hyp
      have HC := Lib.hid hyp
      clear hyp hr1 hba hbb hTa hTb hbw hU1 hka hj hv0 hv1 hN HA3 HB3 HWa HWb
      go_wp2_with fail
      with_reducible refine HC.out.mono ?_
      rintro e w2 ⟨rfl, F2, sv2, g2, hN2⟩
      have HN2 := Lib.hid (hN2.of_below HBc.out)
      clear hN2
      go_wp2_with fail
      go_ret
      exact ⟨rfl, F2, sv2, g2, HN2.out⟩
    · have hkab : (a1.kind == 0) = false := by rw [beq_eq_false_iff_ne]; exact hka
      have hr1 := HR.out
      rw [if_neg hka] at hr1
      by_cases hkb : b1.kind = 0
      · rw [if_pos hkb] at hr1
        obtain ⟨hv0, hv1⟩ := HVb1.out b1.var (by rw [freeP_var hkb]; simp)
        obtain ⟨j, hj⟩ : ∃ j : Nat, b1.var = (j : Int) := ⟨b1.var.toNat, by omega⟩
        rw [hj] at hr1 s2
        rw [hkb] at s0
        have hyp := bind_any k F wc p _ g σ hU1 (by omega) j (by omega) a1 _ hTa HVa1.out r σ' hr1
        unfold tyV at hyp
        have HC := Lib.hid hyp
        clear hyp hr1 hba hbb hTa hTb hbw hU1 hkb hj hv0 hv1 hN HA3 HB3 HWa HWb hka
        go_wp2_with fail
        with_reducible refine HC.out.mono ?_
        rintro e w2 ⟨rfl, F2, sv2, g2, hN2⟩
        have HN2 := Lib.hid (hN2.of_below HBc.out)
        clear hN2
        go_wp2_with fail
        go_ret
        exact ⟨rfl, F2, sv2, g2, HN2.out⟩
      · have hkbb : (b1.kind == 0) = false := by rw [beq_eq_false_iff_ne]; exact hkb
        rw [if_neg hkb] at hr1
        by_cases hrow : a1.kind = 5 ∧ 4 ≤ b1.kind
        · rw [if_pos hrow] at hr1
          have hk5 : (a1.kind == 5) = true := by rw [hrow.1]; rfl
          have hk4 : 4 ≤ b1.kind := hrow.2
          have hyp := rows_step k q HIH.out F wc p _ g σ a1 b1 _ _ r σ' hU1 hN hTa hTb HVa1.out HVb1.out hka hr1
          unfold tyV at hyp
          have HC := Lib.hid hyp
          clear hyp hr1 hba hbb hTa hTb hbw hU1 hrow hN HA3 HB3 HWa HWb hka hkb
          go_wp2_with fail
          with_reducible refine HC.out.mono ?_
          rintro e w2 ⟨rfl, F2, sv2, g2, hN2⟩
          have HN2 := Lib.hid (hN2.of_below HBc.out)
          clear hN2
          go_wp2_with fail
          go_ret
          exact ⟨rfl, F2, sv2, g2, HN2.out⟩
        · rw [if_neg hrow] at hr1
          have hrows : (a1.kind == 5) = false ∨ ((a1.kind == 5) = true ∧ ¬ 4 ≤ b1.kind) := by
            rcases Classical.em (a1.kind = 5) with h5 | h5
            · exact .inr ⟨by rw [h5]; rfl, fun h => hrow ⟨h5, h⟩⟩
            · exact .inl (by rw [beq_eq_false_iff_ne]; exact h5)
          have HNs := Lib.hid (UniNew.of_below (UniNew.self hU1) hbw)
          by_cases hmis : a1.kind ≠ b1.kind ∨ a1.name ≠ b1.name ∨ a1.args.length ≠ b1.args.length
          · rw [if_pos hmis] at hr1
            simp only [Option.some.injEq, Prod.mk.injEq] at hr1
            have HR1 := Lib.hid hr1
            have hm3 : ((a1.kind != b1.kind) = true) ∨ ((a1.kind != b1.kind) = false ∧ (a1.name.toList != b1.name.toList) = true ∧ (a1.name.toList == b1.name.toList) = false) ∨ ((a1.kind != b1.kind) = false ∧ (a1.name.toList != b1.name.toList) = false ∧ (a1.name.toList == b1.name.toList) = true ∧ ((a1.args.length : Int) != (b1.args.length : Int)) = true) := by
              by_cases h1 : a1.kind = b1.kind
              · right
                have e1 : (a1.kind != b1.kind) = false := by rw [h1]; simp
                by_cases h2 : a1.name = b1.name
                · right
                  refine ⟨e1, by rw [h2]; simp, str_yes h2, ?_⟩
                  rw [bne_iff_ne]
                  intro h3
                  rcases hmis with h | h | h
                  · exact h h1
                  · exact h h2
                  · exact h (by omega)
                · left
                  exact ⟨e1, by rw [bne_iff_ne]; exact fun e => h2 (str_inj e), str_no h2⟩
              · left
                rw [bne_iff_ne]; exact h1
            clear hr1 hba hbb hTa hTb hbw hU1 hrow hN HA3 HB3 HWa HWb hka hkb hmis
            rcases hrows with h5 | ⟨h5, h4⟩
            all_goals rcases hm3 with h1 | ⟨h1, h2, h3⟩ | ⟨h1, h2, h3, h6⟩
            all_goals
              go_wp2_with fail
              go_ret
              exact ⟨by rw [← HR1.out.1]; rfl, F, _, g, by rw [← HR1.out.2]; exact HNs.out⟩
          · rw [if_neg hmis] at hr1
            have e1 : a1.kind = b1.kind := Classical.not_not.1 (fun h => hmis (.inl h))
            have e2 : a1.name = b1.name := Classical.not_not.1 (fun h => hmis (.inr (.inl h)))
            have e3 : a1.args.length = b1.args.length := Classical.not_not.1 (fun h => hmis (.inr (.inr h)))
            have h1 : (a1.kind != b1.kind) = false := by rw [e1]; simp
            have h2 : (a1.name.toList != b1.name.toList) = false := by rw [e2]; simp
            have h3 : (a1.name.toList == b1.name.toList) = true := str_yes e2
            have h6 : ((a1.args.length : Int) != (b1.args.length : Int)) = false := by rw [e3]; simp
            have HE3 := Lib.hid e3
            have HR1 := Lib.hid hr1
            have HKa := Lib.hid hka
            have HKb := Lib.hid hkb
            have hlm7 : a1.args.length ≤ 9223372036854775807 := by unfold maxLen at hcm7; omega
            have HNself := Lib.hid (UniNew.self hU1)
            have HU1 := Lib.hid hU1
            have hbcl := hbb.lt
            have hgl1 := hU1.glt
            have hpl1 := hU1.blk.lt
            clear hr1 hba hbb hTa hTb hbw hU1 hrow hN HA3 HB3 HWa HWb hka hkb hmis e1 e2 e3
            rcases hrows with h5 | ⟨h5, h4⟩
            all_goals
              go_wp2_with fail
              go_loopw [7, 8, 77] (fun _ _ i wr => ∃ (j : Nat) (Fj : Nat → Prop) (svj : Value) (gj : Nat) (σj : List Ty), j ≤ a1.args.length ∧ i = .int .i64 j ∧ UniNew F Fj wc p g wr svj gj σj ∧ Hid (σ.length ≤ σj.length ∧ σj.length ≤ 4096) ∧ Hid (unifyL (unifyP k q) (a1.args.drop j) (b1.args.drop j) σj = some (r, σ'))) (fun _ _ i _ => a1.args.length - (intOf i).toNat)
              case atStart => exact ⟨0, F, _, g, σ, Nat.zero_le _, rfl, HNself.out, ⟨Nat.le_refl _, HN.out⟩, HR1.out⟩
              case round =>
                obtain ⟨j, Fj, svj, gj, σj, hj, rfl, hNj, hlj, hwj⟩ := hrel
                have HNj := Lib.hid (hNj.of_below HBc.out)
                by_cases hlt : j < a1.args.length
                · have hltb : j < b1.args.length := by have := HE3.out; omega
                  have hw2 := hwj.out
                  rw [List.drop_eq_getElem_cons hlt, List.drop_eq_getElem_cons hltb, unifyL] at hw2
                  have hTaw : TyC wr Fj a1 _ := hNj.old HU1.out HTa.out
                  have hTbw : TyC wr Fj b1 _ := hNj.old HU1.out HTb.out
                  have hVx := HVa1.out.arg HKa.out (List.getElem_mem hlt)
                  have hVy := HVb1.out.arg HKb.out (List.getElem_mem hltb)
                  obtain ⟨gx, offx, xv, hadr, hgx, i0, i1, i2, i3, hTx⟩ := tyD.get hTaw.args hlt
                  obtain rfl := hadr
                  obtain ⟨gy, offy, yv, hadr, hgy, f0, f1, f2, f3, hTy⟩ := tyD.get hTbw.args hltb
                  obtain rfl := hadr
                  obtain ⟨x, hx⟩ : ∃ x, a1.args[j] = x := ⟨_, rfl⟩
                  obtain ⟨y, hy⟩ : ∃ y, b1.args[j] = y := ⟨_, rfl⟩
                  rw [hx] at i0 i1 i2 hTx hVx hw2
                  rw [hy] at f0 f1 f2 hTy hVy hw2
                  obtain ⟨A4, c4, rfl, _⟩ := hTx.form
                  obtain ⟨A5, c5, rfl, _⟩ := hTy.form
                  cases hu1 : unifyP k q σj x y with
                  | none => rw [hu1] at hw2; cases hw2
                  | some pr =>
                  obtain ⟨e2, σ2⟩ := pr
                  rw [hu1] at hw2
                  dsimp only at hw2
                  have hlen2 := unifyP_len k q _ _ _ _ _ hu1
                  have hC1 := fun X (hb : Below wr.heap.size wr X) => HIH.out Fj X p svj gj σj x y _ _ e2 σ2 (hNj.uni.later hb) hlj.out.2 (hTx.later hb) (hTy.later hb) (hVx.mono hlj.out.1) (hVy.mono hlj.out.1) hu1
                  unfold tyV at hC1
                  have HC1 := Lib.hid hC1
                  have hbgj : b0 ≠ gj ∧ b0 + 1 ≠ gj := by
                    rcases hNj.at_ with h | h
                    · rw [h]; omega
                    · omega
                  have hbg1 := hbgj.1
                  have hbg2 := hbgj.2
                  have hgx2 := (hNj.uni.im gx hgx).2
                  have hgy2 := (hNj.uni.im gy hgy).2
                  have hgxp := hgx2.1
                  have hgxg := hgx2.2
                  have hgyp := hgy2.1
                  have hgyg := hgy2.2
                  have j3 := (HBa.out.keeps hNj.keeps (fun h => by omega)).cell (i := 3) rfl
                  have k3 := (HBb.out.keeps hNj.keeps (fun h => by omega)).cell (i := 3) rfl
                  have hbw1 := (HBb.out.keeps hNj.keeps (fun h => by omega)).lt
                  have j0 : (0 : Int) ≤ (j : Int) := by omega
                  have j1 : (j : Int) < (a1.args.length : Int) := by omega
                  have j2 : (j : Int) < (b1.args.length : Int) := by omega
                  have HNr := Lib.hid hNj
                  have HW2 := Lib.hid hw2
                  have HLen2 : Hid (e2 = 0 → σ.length ≤ σ2.length ∧ σ2.length ≤ 4096) := fun he => ⟨Nat.le_trans hlj.out.1 hlen2.1, hlen2.2 hlj.out.2 he⟩
                  have hQ : Hid (∀ X, Keeps (fun b => b = p ∨ b = gj) wr X → (X.cell? ⟨b0, 3, none⟩ = some (.slice (some ⟨gx, offx, none⟩) a1.args.length c7) ∧ X.cell? ⟨b0 + 1, 3, none⟩ = some (.slice (some ⟨gy, offy, none⟩) b1.args.length c8) ∧ X.cell? ⟨gx, offx + j * 4, none⟩ = some (.int .i64 x.kind) ∧ X.cell? ⟨gx, offx + j * 4 + 1, none⟩ = some (.string x.name) ∧ X.cell? ⟨gx, offx + j * 4 + 2, none⟩ = some (.int .i64 x.var) ∧ X.cell? ⟨gx, offx + j * 4 + 3, none⟩ = some (.slice A4 x.args.length c4) ∧ X.cell? ⟨gy, offy + j * 4, none⟩ = some (.int .i64 y.kind) ∧ X.cell? ⟨gy, offy + j * 4 + 1, none⟩ = some (.string y.name) ∧ X.cell? ⟨gy, offy + j * 4 + 2, none⟩ = some (.int .i64 y.var) ∧ X.cell? ⟨gy, offy + j * 4 + 3, none⟩ = some (.slice A5 y.args.length c5))) := fun X hk =>
                    ⟨hk.cell j3 (fun h => by rcases h with h | h <;> (dsimp at h; omega)), hk.cell k3 (fun h => by rcases h with h | h <;> (dsimp at h; omega)), hk.cell i0 (fun h => by rcases h with h | h <;> (dsimp at h; omega)), hk.cell i1 (fun h => by rcases h with h | h <;> (dsimp at h; omega)), hk.cell i2 (fun h => by rcases h with h | h <;> (dsimp at h; omega)), hk.cell i3 (fun h => by rcases h with h | h <;> (dsimp at h; omega)), hk.cell f0 (fun h => by rcases h with h | h <;> (dsimp at h; omega)), hk.cell f1 (fun h => by rcases h with h | h <;> (dsimp at h; omega)), hk.cell f2 (fun h => by rcases h with h | h <;> (dsimp at h; omega)), hk.cell f3 (fun h => by rcases h with h | h <;> (dsimp at h; omega))⟩
                  clear hC1 hTx hTy hTaw hTbw hVx hVy hx hy hu1 hw2 hwj hlj hNj hlen2 hgx2 hgy2 t0 t1 t2 t3 s0 s1 s2 s3
                  go_wp2_with fail
                  go_region_held3 (fun X => X.cell? ⟨b0, 3, none⟩ = some (.slice (some ⟨gx, offx, none⟩) a1.args.length c7) ∧ X.cell? ⟨b0 + 1, 3, none⟩ = some (.slice (some ⟨gy, offy, none⟩) b1.args.length c8) ∧ X.cell? ⟨gx, offx + j * 4, none⟩ = some (.int .i64 x.kind) ∧ X.cell? ⟨gx, offx + j * 4 + 1, none⟩ = some (.string x.name) ∧ X.cell? ⟨gx, offx + j * 4 + 2, none⟩ = some (.int .i64 x.var) ∧ X.cell? ⟨gx, offx + j * 4 + 3, none⟩ = some (.slice A4 x.args.length c4) ∧ X.cell? ⟨gy, offy + j * 4, none⟩ = some (.int .i64 y.kind) ∧ X.cell? ⟨gy, offy + j * 4 + 1, none⟩ = some (.string y.name) ∧ X.cell? ⟨gy, offy + j * 4 + 2, none⟩ = some (.int .i64 y.var) ∧ X.cell? ⟨gy, offy + j * 4 + 3, none⟩ = some (.slice A5 y.args.length c5))
                    (exact hQ.out _ (by repeat (first | (with_reducible assumption) | (with_reducible exact Keeps.refl _ _) | (with_reducible refine Keeps.drewN ?_ _) | (with_reducible refine Keeps.drew ?_) | with_reducible refine Keeps.setCell ?_ (by first | (intro _; exact rfl) | (intro _; exact Or.inl rfl) | (intro _; exact Or.inr rfl) | (simp; done) | (simp; omega)) _ | (with_reducible refine Keeps.alloc ?_ _))))
                    ((go_at_call 29; (with_reducible refine (HC1.out _ (by repeat (first | (with_reducible assumption) | (with_reducible exact Below.refl _ _) | (with_reducible refine Below.drewN ?_ _) | (with_reducible refine Below.drew ?_) | with_reducible refine Below.setCell ?_ (by first | exact Nat.le_refl _ | (simp; done) | (simp; omega)) _ | with_reducible refine Below.alloc ?_ (by first | exact Nat.le_refl _ | omega | (simp; done) | (simp; omega)) _))).mono ?_); rintro e w4 ⟨rfl, F2, sv2, g2, hN4⟩; have hk4 : Keeps (fun b => b = p ∨ b = gj) wr w4 := Keeps.trans (by repeat (first | (with_reducible assumption) | (with_reducible exact Keeps.refl _ _) | (with_reducible refine Keeps.drewN ?_ _) | (with_reducible refine Keeps.drew ?_) | with_reducible refine Keeps.setCell ?_ (by first | (intro _; exact rfl) | (intro _; exact Or.inl rfl) | (intro _; exact Or.inr rfl) | (simp; done) | (simp; omega)) _ | (with_reducible refine Keeps.alloc ?_ _))) hN4.keeps (fun _ _ h => h)))
                  all_goals
                    have hN5 : UniNew Fj F2 wr p gj w4 sv2 g2 σ2 := UniNew.of_below (W := wr) hN4 (Below.refl _ _).drew
                    have HN5 := Lib.hid (HNr.out.trans hN5)
                    have HN6 := Lib.hid (HNj.out.trans hN5)
                    clear hN5 hN4 hk4
                    by_cases he : e2 = 0
                    · have HW3 := Lib.hid HW2.out
                      rw [if_neg (fun h => h he)] at HW3
                      have heb : (e2 != 0) = false := by rw [he]; rfl
                      have HLen3 := Lib.hid (HLen2.out he)
                      clear he
                      go_wp2_with fail
                      go_roundw
                      case rel => exact ⟨j + 1, F2, sv2, g2, σ2, by omega, by go_num, HN5.out, HLen3.out, HW3.out⟩
                      case measure => simp [intOf]; omega
                    · have HW3 := Lib.hid HW2.out
                      rw [if_pos he] at HW3
                      simp only [Option.some.injEq, Prod.mk.injEq] at HW3
                      have heb : (e2 != 0) = true := by rw [bne_iff_ne]; exact he
                      clear he
                      go_wp2_with fail
                      go_ret
                      exact ⟨by rw [← HW3.out.1]; rfl, F2, sv2, g2, by rw [← HW3.out.2]; exact HN6.out⟩
                · obtain rfl : j = a1.args.length := by omega
                  have hw2 := hwj.out
                  rw [List.drop_length, unifyL_nil] at hw2
                  simp only [Option.some.injEq, Prod.mk.injEq] at hw2
                  have HW2 := Lib.hid hw2
                  have j1 : ¬ (a1.args.length : Int) < (a1.args.length : Int) := by omega
                  clear hw2 hwj hNj t0 t1 t2 t3 s0 s1 s2 s3
                  go_wp2_with fail
                  go_ret
                  exact ⟨by rw [← HW2.out.1]; rfl, Fj, svj, gj, by rw [← HW2.out.2]; exact HNj.out⟩
theorem uni_any (k : Nat) : ∀ q, UniAt k q
  | 0 => uni_step k 0 fun _ h => by omega
  | q + 1 => uni_step k (q + 1) fun m h => by
    obtain rfl : q = m := by omega
    exact uni_any k q
end Go.Proofs.YthchnabhbpdfgaaDoor
