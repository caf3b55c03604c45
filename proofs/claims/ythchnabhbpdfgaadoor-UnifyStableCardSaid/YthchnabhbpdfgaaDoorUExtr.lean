/- unify.extract. -/
import Derived.Test.YthchnabhbpdfgaaDoorMBind
import Derived.Test.YthchnabhbpdfgaaDoorUFresh
namespace Go.Proofs.YthchnabhbpdfgaaDoor
open Go.RowKit Go.Shelf

/-- What extract leaves. -/
def ExtrPost (F : Nat → Prop) (W : World) (p g : Nat) (t rest : Ty) (r : Int) (σ' : List Ty) (e : Ending) (w' : World) : Prop :=
  ∃ av bv F' sv' g', e = .returned (.tuple #[tyV t av, tyV rest bv, .int .i64 r]) ∧ TyC w' F' t av ∧ TyC w' F' rest bv ∧ UniNew F F' W p g w' sv' g' σ'
def ExtrAt (k : Nat) (label : ByteArray) (not : Int) (q : Nat) : Prop := ∀ (F : Nat → Prop) (W : World) (p : Nat) (sv : Value) (g : Nat) (σ : List Ty) (t : Ty) (av : Value) (u rest : Ty) (r : Int) (σ' : List Ty), σ.length ≤ 4096 → Uni F W p sv g σ → TyC W F t av → VIn σ t → extractP k label not q σ t = some (u, rest, r, σ') →
  Calls Tryd.prog 45 #[.pointer (some ⟨p, 0, none⟩), .string label, tyV t av, .int .i64 not] W (ExtrPost F W p g u rest r σ')
theorem zeroC (W : World) (F : Nat → Prop) : TyC W F zeroT (.slice none 0 0) := ⟨wf_small 0 (by decide) (by decide), by show (0 : Nat) ≤ maxLen; exact Nat.zero_le _, wf_small 0 (by decide) (by decide), Sl.nil_⟩

set_option maxRecDepth 100000 in
set_option maxHeartbeats 8000000 in
theorem extr_step (k : Nat) (label : ByteArray) (not : Int) (hlab : label.size ≤ maxLen) (q : Nat) (ih : ∀ m, q = m + 1 → ExtrAt k label not m) : ExtrAt k label not q := by
  intro F W p sv g σ t av u rest r σ' hlen hU hT hV hr
  cases q with
  | zero => cases hr
  | succ q =>
  obtain ⟨cap, rfl, hlc, hcm⟩ := hU.form
  obtain ⟨A2, c2, rfl, hlc2, hcm2, _⟩ := hT.form
  obtain ⟨b0, hb0⟩ : ∃ b0, W.heap.size = b0 := ⟨_, rfl⟩
  obtain ⟨W0, hW0⟩ : ∃ W0, ((W.alloc (.cells #[.int .i64 t.kind, .string t.name, .int .i64 t.var, .slice A2 t.args.length c2] 24)).alloc (.cells #[.int .i64 0, .string ⟨#[]⟩, .int .i64 0, .slice none 0 0] 24)).alloc (.cells #[.int .i64 0, .string ⟨#[]⟩, .int .i64 0, .slice none 0 0] 24) = W0 := ⟨_, rfl⟩
  have hk0 : Keeps (fun _ => False) W W0 := by rw [← hW0]; exact (((Keeps.refl _ _).alloc _).alloc _).alloc _
  have hw3 : Blk W0 b0 24 [.int .i64 t.kind, .string t.name, .int .i64 t.var, .slice A2 t.args.length c2] := by
    rw [← hW0, ← hb0]; exact ((Blk.new W _ [_, _, _, _]).alloc _).alloc _
  have hz1 : Blk W0 (b0 + 1) 24 [.int .i64 0, .string ⟨#[]⟩, .int .i64 0, .slice none 0 0] := by
    rw [← hW0]
    have := (Blk.new (W.alloc (.cells #[.int .i64 t.kind, .string t.name, .int .i64 t.var, .slice A2 t.args.length c2] 24)) 24 [.int .i64 0, .string ⟨#[]⟩, .int .i64 0, .slice none 0 0]).alloc (.cells #[.int .i64 0, .string ⟨#[]⟩, .int .i64 0, .slice none 0 0] 24)
    simpa [hb0] using this
  have hz2 : Blk W0 (b0 + 2) 24 [.int .i64 0, .string ⟨#[]⟩, .int .i64 0, .slice none 0 0] := by
    have := Blk.new ((W.alloc (.cells #[.int .i64 t.kind, .string t.name, .int .i64 t.var, .slice A2 t.args.length c2] 24)).alloc (.cells #[.int .i64 0, .string ⟨#[]⟩, .int .i64 0, .slice none 0 0] 24)) 24 [.int .i64 0, .string ⟨#[]⟩, .int .i64 0, .slice none 0 0]
    rw [hW0] at this
    simpa [hb0] using this
  have hU0 := hU.keeps hk0 (fun h => h) (fun h => h) (fun _ _ h => h)
  have hbw0 : Below W.heap.size W W0 := hk0.below (fun _ h => h.elim) (Nat.le_refl _)
  have hpl := hU.blk.lt
  have hgl := hU.glt
  have hpb : p ≠ b0 := by omega
  have hgb : g ≠ b0 := by omega
  have hpb' : p < b0 := by omega
  rw [extractP] at hr
  cases hw : walkP σ k t with
  | none => rw [hw] at hr; cases hr
  | some r1 =>
  rw [hw] at hr
  dsimp only at hr
  have HWk := Lib.hid (fun X (hb : Below W0.heap.size W0 X) => hU.walk (hbw0.trans (hb.mono hbw0.size)) k t r1 _ (hT.below (fun b hb => (hU.im b hb).1) (hbw0.trans (hb.mono hbw0.size))) hV hw)
  unfold tyV at HWk
  have hV1 := walkP_in σ hU.inn k t r1 hV hw
  have t0 := hw3.cell (i := 0) rfl
  have t1' := hw3.cell (i := 1) rfl
  have t2 := hw3.cell (i := 2) rfl
  have t3 := hw3.cell (i := 3) rfl
  have p0 := hU0.blk.cell (i := 0) rfl
  have hb0l := hw3.lt
  have hp0l := hU0.blk.lt
  have HIH := Lib.hid (ih q rfl)
  have HU := Lib.hid hU
  have HU0 := Lib.hid hU0
  have HK0 := Lib.hid hk0
  have HBw := Lib.hid hbw0
  have HB0 := Lib.hid hb0
  have HW0 := Lib.hid hW0
  have HT3 := Lib.hid hw3
  have HZ1 := Lib.hid hz1
  have HZ2 := Lib.hid hz2
  have HR := Lib.hid hr
  have HV1 := Lib.hid hV1
  have HLab := Lib.hid hlab
  have HLen := Lib.hid hlen
  unfold tyV
  clear hU hU0 hk0 hb0 hW0 hw3 hr hT hV hV1 hw hbw0 hz1 hz2 ih hlab hlen
  go_enter Tryd.func45, Tryd.ntmps45
  go_wp2_with fail
  rw [HW0.out, HB0.out]
  go_upto_region 1 with fail
  go_cut [6, 8, 9, 10] (fun s6 s8 s9 s10 wc => ∃ tv, s6 = .pointer (some ⟨b0, 0, none⟩) ∧ s8 = .pointer (some ⟨b0 + 1, 0, none⟩) ∧ s9 = .pointer (some ⟨b0 + 2, 0, none⟩) ∧ s10 = .int .i64 0 ∧ Blk wc b0 24 [.int .i64 r1.kind, .string r1.name, .int .i64 r1.var, tv] ∧ Blk wc (b0 + 1) 24 [.int .i64 0, .string ⟨#[]⟩, .int .i64 0, .slice none 0 0] ∧ Blk wc (b0 + 2) 24 [.int .i64 0, .string ⟨#[]⟩, .int .i64 0, .slice none 0 0] ∧ TyC wc F r1 tv ∧ Below W.heap.size W wc)
  case first =>
    go_region_law (go_simp; go_at_call 19; refine (HWk.out _ (by repeat (first | (with_reducible assumption) | (with_reducible exact Below.refl _ _) | (with_reducible refine Below.drewN ?_ _) | (with_reducible refine Below.drew ?_) | with_reducible refine Below.setCell ?_ (by first | exact Nat.le_refl _ | (simp; done) | (simp; omega)) _ | with_reducible refine Below.alloc ?_ (by first | exact Nat.le_refl _ | omega | (simp; done) | (simp; omega)) _))).mono ?_; rintro e w2 ⟨tv, rfl, hT2, hb2⟩; obtain ⟨A7, c7, rfl, hlc7, hcm7, _⟩ := hT2.form; unfold tyV; have hw2 : Below W0.heap.size W0 w2 := Below.trans (by repeat (first | (with_reducible assumption) | (with_reducible exact Below.refl _ _) | (with_reducible refine Below.drewN ?_ _) | (with_reducible refine Below.drew ?_) | with_reducible refine Below.setCell ?_ (by first | exact Nat.le_refl _ | (simp; done) | (simp; omega)) _ | with_reducible refine Below.alloc ?_ (by first | exact Nat.le_refl _ | omega | (simp; done) | (simp; omega)) _)) (hb2.mono (by simp)); have hB2 := HT3.out.later hw2; have k0 := hB2.cell (i := 0) rfl; have k1 := hB2.cell (i := 1) rfl; have k2 := hB2.cell (i := 2) rfl; have k3 := hB2.cell (i := 3) rfl; have m0 := hB2.free 0; have m1 := hB2.free 1; have m2 := hB2.free 2; have m3 := hB2.free 3; go_wp2_with fail)
    all_goals
      obtain ⟨hB4, hK4⟩ := four hB2 (.int .i64 r1.kind) (.string r1.name) (.int .i64 r1.var) (.slice A7 r1.args.length c7)
      have hz := HB0.out
      have hbz : Below W.heap.size W w2 := HBw.out.trans (hw2.mono HBw.out.size)
      clear k0 k1 k2 k3 m0 m1 m2 m3
      go_wp2_with fail
      go_meet
      exact ⟨_, rfl, rfl, rfl, rfl, hB4, (HZ1.out.later hw2).keeps hK4 (by omega), (HZ2.out.later hw2).keeps hK4 (by omega), hT2.keeps hK4 (fun i hi h => by have := (HU.out.im i hi).1; omega), hbz.trans (hK4.below (fun i h => by omega) hbz.size)⟩
  case rest =>
    obtain ⟨tv, rfl, rfl, rfl, rfl, hbt, hy1, hy2, hTt, hbw⟩ := hcut
    obtain ⟨A7, c7, rfl, hlc7, hcm7, _⟩ := hTt.form
    have d0 := hbt.cell (i := 0) rfl
    have d1 := hbt.cell (i := 1) rfl
    have d2 := hbt.cell (i := 2) rfl
    have d3 := hbt.cell (i := 3) rfl
    have x0 := hy1.cell (i := 0) rfl
    have x1 := hy1.cell (i := 1) rfl
    have x2 := hy1.cell (i := 2) rfl
    have x3 := hy1.cell (i := 3) rfl
    have y0 := hy2.cell (i := 0) rfl
    have y1 := hy2.cell (i := 1) rfl
    have y2 := hy2.cell (i := 2) rfl
    have y3 := hy2.cell (i := 3) rfl
    have xf0 := hy1.free 0
    have xf1 := hy1.free 1
    have xf2 := hy1.free 2
    have xf3 := hy1.free 3
    have yf0 := hy2.free 0
    have yf1 := hy2.free 1
    have yf2 := hy2.free 2
    have yf3 := hy2.free 3
    have hl2 := hy2.lt
    have hb12 : b0 + 1 ≠ b0 + 2 := by omega
    have HBt := Lib.hid hbt
    have HY1 := Lib.hid hy1
    have HY2 := Lib.hid hy2
    have HTt := Lib.hid hTt
    have HBc := Lib.hid hbw
    clear hbt hy1 hy2 hTt hbw t0 t1' t2 t3 p0
    by_cases h0 : r1.kind = 0
    · have hr1 := HR.out
      rw [if_pos h0] at hr1
      by_cases hn : r1.var = not
      · rw [if_pos hn] at hr1
        simp only [Option.some.injEq, Prod.mk.injEq] at hr1
        have HR1 := Lib.hid hr1
        have h0b : (r1.kind == 0) = true := by rw [h0]; rfl
        have hnb : (r1.var == not) = true := by rw [hn]; simp
        clear hr1 h0 hn
        go_wp2_with fail
        obtain ⟨rfl, rfl, rfl, rfl⟩ := HR1.out
        obtain ⟨hA, hKA⟩ := four HY1.out (.int .i64 0) (.string ⟨#[]⟩) (.int .i64 0) (.slice none 0 0)
        obtain ⟨hC, hKC⟩ := four (HY2.out.keeps hKA (fun e => hb12 e.symm)) (.int .i64 0) (.string ⟨#[]⟩) (.int .i64 0) (.slice none 0 0)
        have hbz : Below W.heap.size W _ := (HBc.out.trans (hKA.below (fun i h => by have := HB0.out; omega) HBc.out.size)).trans (hKC.below (fun i h => by have := HB0.out; omega) (by have := HBc.out.size; have := hKA.size; omega))
        exact ret_rows2 Tryd.results45 rfl rfl rfl (hA.keeps hKC hb12) hC Tryd.underlying24 (by kernel_rfl) (by kernel_rfl) rfl ⟨_, _, F, _, g, rfl, zeroC _ _, zeroC _ _, HU.out.later hbz, Keeps.of_below hbz, .inl rfl, fun _ h => h, fun _ h => .inl h⟩
      · rw [if_neg hn] at hr1
        have HR1 := Lib.hid hr1
        have h0b : (r1.kind == 0) = true := by rw [h0]; rfl
        have hnb : (r1.var == not) = false := by rw [beq_eq_false_iff_ne]; exact hn
        have hv1 := HV1.out r1.var (by rw [freeP_var h0]; exact List.mem_singleton.2 rfl)
        obtain ⟨v, hv⟩ : ∃ v : Nat, r1.var = (v : Int) := ⟨r1.var.toNat, by omega⟩
        have hvn : v < σ.length := by omega
        obtain ⟨u', hu'⟩ : ∃ x, varT (σ.length : Int) = x := ⟨_, rfl⟩
        obtain ⟨rest', hre'⟩ : ∃ x, varT ((σ.length : Int) + 1) = x := ⟨_, rfl⟩
        have hVu : VIn (σ ++ [u', rest']) u' := by rw [← hu']; exact varT_in (by simp; omega)
        have hVr : VIn (σ ++ [u', rest']) rest' := by rw [← hre']; exact varT_in (by simp; omega)
        have hf1 := fresh_any F wc p _ g σ (HU.out.later HBc.out) (by have := HLen.out; omega)
        rw [hu'] at hf1
        have HF1 := Lib.hid hf1
        have HV := Lib.hid hv
        have HVN := Lib.hid hvn
        have HVu := Lib.hid hVu
        have HVr := Lib.hid hVr
        have HUu := Lib.hid hu'
        have HRr := Lib.hid hre'
        clear hr1 h0 hn hv1 hf1 hv hvn hVu hVr hu' hre'
        go_wp2_with fail
        with_reducible refine HF1.out.mono ?_
        rintro e w2 ⟨av1, sv1, g1, rfl, hTu1, hN1⟩
        have hf2 := fresh_any F w2 p sv1 g1 _ hN1.uni (by have := HLen.out; simp; omega)
        rw [show (((σ ++ [u']).length : Nat) : Int) = (σ.length : Int) + 1 from by simp, HRr.out, List.append_assoc] at hf2
        have HF2 := Lib.hid hf2
        have HN1 := Lib.hid hN1
        have HTu1 := Lib.hid hTu1
        clear hf2 hN1 hTu1
        obtain ⟨A8, c8, rfl, hlc8, hcm8, _⟩ := HTu1.out.form
        unfold tyV
        go_wp2_with fail
        with_reducible refine HF2.out.mono ?_
        rintro e w3 ⟨bv1, sv2, g2, rfl, hTr, hN2⟩
        have hN : UniNew F F wc p g w3 sv2 g2 (σ ++ [u', rest']) := HN1.out.trans hN2
        have hTu := hN2.old HN1.out.uni HTu1.out
        obtain ⟨A9, c9, rfl, hlc9, hcm9, _⟩ := hTr.form
        obtain ⟨cap2, rfl, hlcu, hcmu⟩ := hN.uni.form
        obtain ⟨L, hL⟩ : ∃ L, (σ ++ [u', rest']).length = L := ⟨_, rfl⟩
        have hL2 : L = σ.length + 2 := by rw [← hL]; simp
        rw [hL] at hN hN2
        unfold tyV
        obtain ⟨b3, hb3⟩ : ∃ b3, w3.heap.size = b3 := ⟨_, rfl⟩
        obtain ⟨Wq, hWq⟩ : ∃ Wq, (w3.alloc (.cells #[.int .i64 u'.kind, .string u'.name, .int .i64 u'.var, .slice A8 u'.args.length c8] 24)).alloc (.cells #[.int .i64 rest'.kind, .string rest'.name, .int .i64 rest'.var, .slice A9 rest'.args.length c9] 24) = Wq := ⟨_, rfl⟩
        have hkq : Keeps (fun _ => False) w3 Wq := by rw [← hWq]; exact ((Keeps.refl _ _).alloc _).alloc _
        have hq1 : Blk Wq b3 24 [.int .i64 u'.kind, .string u'.name, .int .i64 u'.var, .slice A8 u'.args.length c8] := by
          rw [← hWq, ← hb3]; exact (Blk.new w3 _ [_, _, _, _]).alloc _
        have hq2 : Blk Wq (b3 + 1) 24 [.int .i64 rest'.kind, .string rest'.name, .int .i64 rest'.var, .slice A9 rest'.args.length c9] := by
          have := Blk.new (w3.alloc (.cells #[.int .i64 u'.kind, .string u'.name, .int .i64 u'.var, .slice A8 u'.args.length c8] 24)) 24 [.int .i64 rest'.kind, .string rest'.name, .int .i64 rest'.var, .slice A9 rest'.args.length c9]
          rw [hWq] at this
          simpa [hb3] using this
        have hUq := hN.uni.keeps hkq (fun h => h) (fun h => h) (fun _ _ h => h)
        have hkc : Keeps (fun b => b = p ∨ b = g) wc Wq := hN.keeps.trans hkq (fun _ _ h => h.elim)
        have hg0 : b0 ≠ g := by omega
        have hB0' := HB0.out
        have hg1' : b0 + 1 ≠ g := by omega
        have hg2' : b0 + 2 ≠ g := by omega
        have hp1' : b0 + 1 ≠ p := by omega
        have hp2' : b0 + 2 ≠ p := by omega
        have hcb := HBt.out.keeps hkc (fun h => by omega)
        have hY1q := HY1.out.keeps hkc (fun h => by omega)
        have hY2q := HY2.out.keeps hkc (fun h => by omega)
        have hg2l := hUq.glt
        have hg2b : g2 < b3 := by have := hN.uni.glt; omega
        have hpg2 : p ≠ g2 := fun e => hUq.ne e.symm
        have hwcs := hN.keeps.size
        have hg2c : g2 = g ∨ b0 + 2 < g2 := hN.at_.imp id (fun h => by have := HY2.out.lt; omega)
        have hbg0 : b0 ≠ g2 := by omega
        have hbg1 : b0 + 1 ≠ g2 := by omega
        have hbg2 : b0 + 2 ≠ g2 := by omega
        have hb30 : b0 + 2 < b3 := by omega
        have p0 := hUq.blk.cell (i := 0) rfl
        have l0 := hq1.cell (i := 0) rfl
        have l1 := hq1.cell (i := 1) rfl
        have l2 := hq1.cell (i := 2) rfl
        have l3 := hq1.cell (i := 3) rfl
        have r0 := hq2.cell (i := 0) rfl
        have r1' := hq2.cell (i := 1) rfl
        have r2 := hq2.cell (i := 2) rfl
        have r3 := hq2.cell (i := 3) rfl
        have j2 := hcb.cell (i := 2) rfl
        rw [HV.out] at j2
        have HUq := Lib.hid hUq
        have HN := Lib.hid hN
        have HKc := Lib.hid hkc
        have HKq := Lib.hid hkq
        have HY1q := Lib.hid hY1q
        have HY2q := Lib.hid hY2q
        have HQ1 := Lib.hid hq1
        have HQ2 := Lib.hid hq2
        have HTu := Lib.hid (hTu.keeps hkq (fun _ _ h => h))
        have HTr := Lib.hid (hTr.keeps hkq (fun _ _ h => h))
        have HB3 := Lib.hid hb3
        have HWq := Lib.hid hWq
        have HLL := Lib.hid hL
        have HL2 := Lib.hid hL2
        have x0 := hY1q.cell (i := 0) rfl
        have x1 := hY1q.cell (i := 1) rfl
        have x2 := hY1q.cell (i := 2) rfl
        have x3 := hY1q.cell (i := 3) rfl
        have y0 := hY2q.cell (i := 0) rfl
        have y1 := hY2q.cell (i := 1) rfl
        have y2 := hY2q.cell (i := 2) rfl
        have y3 := hY2q.cell (i := 3) rfl
        have xf0 := hY1q.free 0
        have xf1 := hY1q.free 1
        have xf2 := hY1q.free 2
        have xf3 := hY1q.free 3
        have yf0 := hY2q.free 0
        have yf1 := hY2q.free 1
        have yf2 := hY2q.free 2
        have yf3 := hY2q.free 3
        have hr1 := HR1.out
        rw [HUu.out, HRr.out, HV.out, Int.toNat_natCast] at hr1
        clear hN2 hN hTu hTr hkq hb3 hWq hq1 hq2 hcb hY1q hY2q hUq hkc hL hL2 d0 d1 d2 d3 hg2l hwcs
        by_cases hbig : 4096 < σ.length + 2
        · rw [if_pos hbig] at hr1
          simp only [Option.some.injEq, Prod.mk.injEq] at hr1
          have HR2 := Lib.hid hr1
          have kL : (4096 : Int) < (L : Int) := by have := HL2.out; omega
          clear hr1 hbig
          go_upto_region 6 with (fail)
          rw [HWq.out, HB3.out]
          go_wp2_with fail
          obtain ⟨rfl, rfl, rfl, rfl⟩ := HR2.out
          obtain ⟨hA, hKA⟩ := four HY1q.out (.int .i64 0) (.string ⟨#[]⟩) (.int .i64 0) (.slice none 0 0)
          obtain ⟨hC, hKC⟩ := four (HY2q.out.keeps hKA (fun e => hb12 e.symm)) (.int .i64 0) (.string ⟨#[]⟩) (.int .i64 0) (.slice none 0 0)
          have hall := ((Keeps.refl (fun i => i = b0 + 1 ∨ i = b0 + 2) Wq).trans (hKA.mono (Y := fun i => i = b0 + 1 ∨ i = b0 + 2) (fun i _ h => .inl h)) (fun _ _ h => h)).trans (hKC.mono (Y := fun i => i = b0 + 1 ∨ i = b0 + 2) (fun i _ h => .inr h)) (fun _ _ h => h)
          have hfb : ∀ i, F i → ¬ (i = b0 + 1 ∨ i = b0 + 2) := fun i hi h => by have := (HU.out.im i hi).1; omega
          exact ret_rows2 Tryd.results45 rfl rfl rfl (hA.keeps hKC hb12) hC Tryd.underlying24 (by kernel_rfl) (by kernel_rfl) rfl ⟨_, _, F, _, g2, rfl, zeroC _ _, zeroC _ _, HUq.out.keeps hall (by omega) (by omega) hfb, ((Keeps.of_below (X := fun b => b = p ∨ b = g) HBc.out).trans HKc.out (fun _ _ h => h)).trans hall (fun i hi h => by omega), HN.out.at_.imp id (fun h => Nat.le_trans HBc.out.size h), fun _ h => h, fun _ h => .inl h⟩
        · rw [if_neg hbig] at hr1
          have kL : ¬ (4096 : Int) < (L : Int) := by have := HL2.out; omega
          have kL' : decide ((4096 : Int) < (L : Int)) = false := by simpa using kL
          have kv0 : (0 : Int) ≤ (v : Int) := by omega
          have kv1 : (v : Int) < (L : Int) := by have := HL2.out; have := HVN.out; omega
          cases hsz : sizedP ((σ ++ [u', rest']).set v (extT label u' rest')) k with
          | none => rw [hsz] at hr1; cases hr1
          | some rs =>
          rw [hsz] at hr1
          simp only [Option.some.injEq, Prod.mk.injEq] at hr1
          have HR2 := Lib.hid hr1
          have HSz := Lib.hid hsz
          have HEe := Lib.hid (fun X (hb : Below Wq.heap.size Wq X) => ext_any label HLab.out X F u' rest' _ _ (HTu.out.later hb) (HTr.out.later hb))
          unfold tyV at HEe
          have hQ8 : Hid (∀ X, Keeps (fun i => i = g2) Wq X → (X.cell? ⟨p, 0, none⟩ = some (.slice (some ⟨g2, 0, none⟩) L cap2) ∧ X.cell? ⟨b0, 2, none⟩ = some (.int .i64 (v : Int)) ∧ X.cell? ⟨b3, 0, none⟩ = some (.int .i64 u'.kind) ∧ X.cell? ⟨b3, 1, none⟩ = some (.string u'.name) ∧ X.cell? ⟨b3, 2, none⟩ = some (.int .i64 u'.var) ∧ X.cell? ⟨b3, 3, none⟩ = some (.slice A8 u'.args.length c8) ∧ X.cell? ⟨b3 + 1, 0, none⟩ = some (.int .i64 rest'.kind) ∧ X.cell? ⟨b3 + 1, 1, none⟩ = some (.string rest'.name) ∧ X.cell? ⟨b3 + 1, 2, none⟩ = some (.int .i64 rest'.var) ∧ X.cell? ⟨b3 + 1, 3, none⟩ = some (.slice A9 rest'.args.length c9))) := fun X hk =>
            ⟨hk.cell p0 (fun h => by dsimp at h; omega), hk.cell j2 (fun h => by dsimp at h; omega), hk.cell l0 (fun h => by dsimp at h; omega), hk.cell l1 (fun h => by dsimp at h; omega), hk.cell l2 (fun h => by dsimp at h; omega), hk.cell l3 (fun h => by dsimp at h; omega), hk.cell r0 (fun h => by dsimp at h; omega), hk.cell r1' (fun h => by dsimp at h; omega), hk.cell r2 (fun h => by dsimp at h; omega), hk.cell r3 (fun h => by dsimp at h; omega)⟩
          clear hr1 hbig hsz
          go_upto_region 6 with (fail)
          rw [HWq.out, HB3.out]
          go_upto_region 8 with (fail)
          go_cut [] from 50 to 60 (fun wd => ∃ F', UniNew F F' wc p g wd (.slice (some ⟨g2, 0, none⟩) L cap2) g2 ((σ ++ [u', rest']).set v (extT label u' rest')) ∧ Keeps (fun i => i = g2) Wq wd)
          case first =>
            go_region_held3 (fun X => X.cell? ⟨p, 0, none⟩ = some (.slice (some ⟨g2, 0, none⟩) L cap2) ∧ X.cell? ⟨b0, 2, none⟩ = some (.int .i64 (v : Int)) ∧ X.cell? ⟨b3, 0, none⟩ = some (.int .i64 u'.kind) ∧ X.cell? ⟨b3, 1, none⟩ = some (.string u'.name) ∧ X.cell? ⟨b3, 2, none⟩ = some (.int .i64 u'.var) ∧ X.cell? ⟨b3, 3, none⟩ = some (.slice A8 u'.args.length c8) ∧ X.cell? ⟨b3 + 1, 0, none⟩ = some (.int .i64 rest'.kind) ∧ X.cell? ⟨b3 + 1, 1, none⟩ = some (.string rest'.name) ∧ X.cell? ⟨b3 + 1, 2, none⟩ = some (.int .i64 rest'.var) ∧ X.cell? ⟨b3 + 1, 3, none⟩ = some (.slice A9 rest'.args.length c9))
              (exact hQ8.out _ (by repeat (first | (with_reducible assumption) | (with_reducible exact Keeps.refl _ _) | (with_reducible refine Keeps.drewN ?_ _) | (with_reducible refine Keeps.drew ?_) | with_reducible refine Keeps.setCell ?_ (by first | (intro _; exact rfl) | (intro _; exact Or.inl rfl) | (intro _; exact Or.inr rfl) | (simp; done) | (simp; omega)) _ | (with_reducible refine Keeps.alloc ?_ _))))
              ((go_at_call 36; refine (HEe.out _ (by repeat (first | (with_reducible assumption) | (with_reducible exact Below.refl _ _) | (with_reducible refine Below.drewN ?_ _) | (with_reducible refine Below.drew ?_) | with_reducible refine Below.setCell ?_ (by first | exact Nat.le_refl _ | (simp; done) | (simp; omega)) _ | with_reducible refine Below.alloc ?_ (by first | exact Nat.le_refl _ | omega | (simp; done) | (simp; omega)) _))).mono ?_; rintro e w4 ⟨av3, rfl, hT3, hb3⟩; obtain ⟨A6, c6, rfl, hlc6, hcm6, _⟩ := hT3.form; unfold tyV; have hb4 : Below Wq.heap.size Wq w4 := Below.trans (by repeat (first | (with_reducible assumption) | (with_reducible exact Below.refl _ _) | (with_reducible refine Below.drewN ?_ _) | (with_reducible refine Below.drew ?_) | with_reducible refine Below.setCell ?_ (by first | exact Nat.le_refl _ | (simp; done) | (simp; omega)) _ | with_reducible refine Below.alloc ?_ (by first | exact Nat.le_refl _ | omega | (simp; done) | (simp; omega)) _)) (hb3.mono (by simp)); have hk4' : Keeps (fun i => i = g2) Wq w4 := Keeps.of_below hb4; have hU4 := HUq.out.later hb4; obtain ⟨_, _, -, -, c0, c1, c2', c3⟩ := hU4.cells (v := v) (by rw [HLL.out]; omega); have f0 := hU4.free (v * 4); have f1 := hU4.free (v * 4 + 1); have f2 := hU4.free (v * 4 + 2); have f3 := hU4.free (v * 4 + 3)))
            all_goals
              go_wp2_with fail
              have hU5 := hU4.mono (F' := Since F Wq w4) (fun b h => .inl h) (fun b hb => by
                rcases hb with h | h
                · exact hU4.im b h
                · exact ⟨h.2, by have := HUq.out.blk.lt; omega, by have := HUq.out.glt; omega⟩)
              have hVe : VIn (σ ++ [u', rest']) (extT label u' rest') := fun w hw => by
                rcases (freeP_args (t := extT label u' rest') (show (5 : Int) ≠ 0 by decide)).1 hw with ⟨a, ha, hwa⟩
                have ha' : a = u' ∨ a = rest' := by simpa [extT, Ty.args] using ha
                rcases ha' with rfl | rfl
                · exact HVu.out w hwa
                · exact HVr.out w hwa
              obtain ⟨hS1, hS2⟩ := hU5.set (v := v) (hT3.keeps (Keeps.refl (fun _ => False) _) (fun _ _ h => h)) (by rw [HLL.out]; omega) hVe
              have hk4 : Keeps (fun _ => False) Wq w4 := Keeps.of_below hb4
              go_meet
              refine ⟨Since F Wq w4, ⟨hS1, ((HKc.out.trans hk4 (fun _ _ h => h.elim)).trans hS2 (fun i hi h => ?_)), HN.out.at_, fun b h => .inl h, fun b hb => ?_⟩, (hk4.mono (Y := fun i => i = g2) (fun _ _ h => h.elim)).trans hS2 (fun _ _ h => h)⟩
              · rcases HN.out.at_ with h2 | h2
                · exact .inr (h.trans h2)
                · omega
              · rcases hb with h | h
                · exact .inl h
                · exact .inr (by have := h.1; have := HKc.out.size; omega)
          case rest =>
            obtain ⟨F5, hN5, hk5⟩ := hcut
            have hq1 := HQ1.out.keeps hk5 (by omega)
            have hq2 := HQ2.out.keeps hk5 (by omega)
            have hY1q := HY1q.out.keeps hk5 (by omega)
            have hY2q := HY2q.out.keeps hk5 (by omega)
            have p0 := hN5.uni.blk.cell (i := 0) rfl
            have l0 := hq1.cell (i := 0) rfl
            have l1 := hq1.cell (i := 1) rfl
            have l2 := hq1.cell (i := 2) rfl
            have l3 := hq1.cell (i := 3) rfl
            have r0 := hq2.cell (i := 0) rfl
            have r1' := hq2.cell (i := 1) rfl
            have r2 := hq2.cell (i := 2) rfl
            have r3 := hq2.cell (i := 3) rfl
            have hL3 : ((σ ++ [u', rest']).set v (extT label u' rest')).length = L := by rw [List.length_set]; exact HLL.out
            have hcz := fun (X : World) (hb : Below wc.heap.size wc X) => sized_any _ hN5.uni.inn k _ _ X (hN5.uni.later hb).sl (fun _ h => h) (by rw [hL3]; have := HL2.out; have := HLen.out; omega) rs HSz.out
            have HCz := Lib.hid hcz
            have HQ1 := Lib.hid hq1
            have HQ2 := Lib.hid hq2
            have HY1q := Lib.hid hY1q
            have HY2q := Lib.hid hY2q
            have HN5 := Lib.hid hN5
            have HK5 := Lib.hid hk5
            have hTu := HTu.out.keeps hk5 (fun i hi h => by have := (HN.out.uni.im i hi).2.2; omega)
            have hTr := HTr.out.keeps hk5 (fun i hi h => by have := (HN.out.uni.im i hi).2.2; omega)
            have HTu := Lib.hid hTu
            have HTr := Lib.hid hTr
            have hQ9 : Hid (∀ X, Keeps (fun i => i = b0 + 1 ∨ i = b0 + 2) wc X → (X.cell? ⟨p, 0, none⟩ = some (.slice (some ⟨g2, 0, none⟩) L cap2) ∧ X.cell? ⟨b3, 0, none⟩ = some (.int .i64 u'.kind) ∧ X.cell? ⟨b3, 1, none⟩ = some (.string u'.name) ∧ X.cell? ⟨b3, 2, none⟩ = some (.int .i64 u'.var) ∧ X.cell? ⟨b3, 3, none⟩ = some (.slice A8 u'.args.length c8) ∧ X.cell? ⟨b3 + 1, 0, none⟩ = some (.int .i64 rest'.kind) ∧ X.cell? ⟨b3 + 1, 1, none⟩ = some (.string rest'.name) ∧ X.cell? ⟨b3 + 1, 2, none⟩ = some (.int .i64 rest'.var) ∧ X.cell? ⟨b3 + 1, 3, none⟩ = some (.slice A9 rest'.args.length c9))) := fun X hk =>
              ⟨hk.cell p0 (fun h => by rcases h with h | h <;> (dsimp at h; omega)), hk.cell l0 (fun h => by rcases h with h | h <;> (dsimp at h; omega)), hk.cell l1 (fun h => by rcases h with h | h <;> (dsimp at h; omega)), hk.cell l2 (fun h => by rcases h with h | h <;> (dsimp at h; omega)), hk.cell l3 (fun h => by rcases h with h | h <;> (dsimp at h; omega)), hk.cell r0 (fun h => by rcases h with h | h <;> (dsimp at h; omega)), hk.cell r1' (fun h => by rcases h with h | h <;> (dsimp at h; omega)), hk.cell r2 (fun h => by rcases h with h | h <;> (dsimp at h; omega)), hk.cell r3 (fun h => by rcases h with h | h <;> (dsimp at h; omega))⟩
            clear hcz hq1 hq2 hY1q hY2q hN5 hk5 hTu hTr hL3
            go_wp2_with fail
            go_region_held3 (fun X => X.cell? ⟨p, 0, none⟩ = some (.slice (some ⟨g2, 0, none⟩) L cap2) ∧ X.cell? ⟨b3, 0, none⟩ = some (.int .i64 u'.kind) ∧ X.cell? ⟨b3, 1, none⟩ = some (.string u'.name) ∧ X.cell? ⟨b3, 2, none⟩ = some (.int .i64 u'.var) ∧ X.cell? ⟨b3, 3, none⟩ = some (.slice A8 u'.args.length c8) ∧ X.cell? ⟨b3 + 1, 0, none⟩ = some (.int .i64 rest'.kind) ∧ X.cell? ⟨b3 + 1, 1, none⟩ = some (.string rest'.name) ∧ X.cell? ⟨b3 + 1, 2, none⟩ = some (.int .i64 rest'.var) ∧ X.cell? ⟨b3 + 1, 3, none⟩ = some (.slice A9 rest'.args.length c9))
              (exact hQ9.out _ (by repeat (first | (with_reducible assumption) | (with_reducible exact Keeps.refl _ _) | (with_reducible refine Keeps.drewN ?_ _) | (with_reducible refine Keeps.drew ?_) | with_reducible refine Keeps.setCell ?_ (by first | (intro _; exact rfl) | (intro _; exact Or.inl rfl) | (intro _; exact Or.inr rfl) | (simp; done) | (simp; omega)) _ | (with_reducible refine Keeps.alloc ?_ _))))
              ((go_at_call 26; refine (HCz.out _ (by repeat (first | (with_reducible assumption) | (with_reducible exact Below.refl _ _) | (with_reducible refine Below.drewN ?_ _) | (with_reducible refine Below.drew ?_) | with_reducible refine Below.setCell ?_ (by first | exact Nat.le_refl _ | (simp; done) | (simp; omega)) _ | with_reducible refine Below.alloc ?_ (by first | exact Nat.le_refl _ | omega | (simp; done) | (simp; omega)) _))).mono ?_; rintro e w3 ⟨rfl, hb3⟩; have hb4 : Below wc.heap.size wc w3 := Below.trans (by repeat (first | (with_reducible assumption) | (with_reducible exact Below.refl _ _) | (with_reducible refine Below.drewN ?_ _) | (with_reducible refine Below.drew ?_) | with_reducible refine Below.setCell ?_ (by first | exact Nat.le_refl _ | (simp; done) | (simp; omega)) _ | with_reducible refine Below.alloc ?_ (by first | exact Nat.le_refl _ | omega | (simp; done) | (simp; omega)) _)) (hb3.mono (by simp)); have hk4 : Keeps (fun i => i = b0 + 1 ∨ i = b0 + 2) wc w3 := Keeps.of_below hb4; have hA3 := HY1q.out.later hb4; have hC3 := HY2q.out.later hb4; have x0 := hA3.cell (i := 0) rfl; have x1 := hA3.cell (i := 1) rfl; have x2 := hA3.cell (i := 2) rfl; have x3 := hA3.cell (i := 3) rfl; have y0 := hC3.cell (i := 0) rfl; have y1 := hC3.cell (i := 1) rfl; have y2 := hC3.cell (i := 2) rfl; have y3 := hC3.cell (i := 3) rfl; have xf0 := hA3.free 0; have xf1 := hA3.free 1; have xf2 := hA3.free 2; have xf3 := hA3.free 3; have yf0 := hC3.free 0; have yf1 := hC3.free 1; have yf2 := hC3.free 2; have yf3 := hC3.free 3))
            all_goals
              go_wp2_with fail
              obtain ⟨hA, hKA⟩ := four hA3 (.int .i64 u'.kind) (.string u'.name) (.int .i64 u'.var) (.slice A8 u'.args.length c8)
              obtain ⟨hC, hKC⟩ := four (hC3.keeps hKA (fun e => hb12 e.symm)) (.int .i64 rest'.kind) (.string rest'.name) (.int .i64 rest'.var) (.slice A9 rest'.args.length c9)
              have hall := ((Keeps.refl (fun i => i = b0 + 1 ∨ i = b0 + 2) w3).trans (hKA.mono (Y := fun i => i = b0 + 1 ∨ i = b0 + 2) (fun i _ h => .inl h)) (fun _ _ h => h)).trans (hKC.mono (Y := fun i => i = b0 + 1 ∨ i = b0 + 2) (fun i _ h => .inr h)) (fun _ _ h => h)
              have hq3 : Keeps (fun _ => False) wc w3 := Keeps.of_below hb4
              have hfb : ∀ i, F5 i → ¬ (i = b0 + 1 ∨ i = b0 + 2) := fun i hi h => by
                rcases HN5.out.new i hi with h2 | h2
                · have := (HU.out.im i h2).1; omega
                · have := HY2.out.lt; omega
              have hff : ∀ i, F i → ¬ (i = b0 + 1 ∨ i = b0 + 2) := fun i hi h => by have := (HU.out.im i hi).1; omega
              have hkf : Keeps (fun b => b = p ∨ b = g) W _ := (((Keeps.of_below (X := fun b => b = p ∨ b = g) HBc.out).trans HN5.out.keeps (fun _ _ h => h)).trans hq3 (fun _ _ h => h.elim)).trans hall (fun i hi h => by omega)
              obtain ⟨rfl, rfl, rfl, rfl⟩ := HR2.out
              exact ret_rows2 Tryd.results45 rfl rfl rfl (hA.keeps hKC hb12) hC Tryd.underlying24 (by kernel_rfl) (by kernel_rfl) rfl ⟨_, _, F5, _, g2, rfl, ((HTu.out.keeps hq3 (fun _ _ h => h)).keeps hall hff).mono HN5.out.up, ((HTr.out.keeps hq3 (fun _ _ h => h)).keeps hall hff).mono HN5.out.up, (HN5.out.uni.keeps hq3 (fun h => h) (fun h => h) (fun _ _ h => h)).keeps hall (by omega) (by omega) hfb, hkf, HN5.out.at_.imp id (fun h => Nat.le_trans HBc.out.size h), HN5.out.up, fun b hb => (HN5.out.new b hb).imp id (fun h => Nat.le_trans HBc.out.size h)⟩
    · have hr1 := HR.out
      rw [if_neg h0] at hr1
      have h0b : (r1.kind == 0) = false := by rw [beq_eq_false_iff_ne]; exact h0
      by_cases h5 : r1.kind = 5
      · rw [if_neg (fun h => h h5)] at hr1
        have h5b : (r1.kind != 5) = false := by rw [h5]; rfl
        match hcar : r1.args, hr1 with
        | [], hr1 => cases hr1
        | [_], hr1 => cases hr1
        | x :: y :: more, hr1 =>
        dsimp only at hr1
        have hl2' : 1 < r1.args.length := by rw [hcar]; simp
        have hl1' : 0 < r1.args.length := by omega
        obtain ⟨gy, off, xv, hadr, hgy, e0, e1, e2, e3, hTx⟩ := tyD.get HTt.out.args hl1'
        obtain rfl := hadr
        obtain ⟨gy2, off2, yv, hadr, hgy2, f0, f1, f2, f3, hTy⟩ := tyD.get HTt.out.args hl2'
        simp only [Option.some.injEq, Addr.mk.injEq, and_true] at hadr
        obtain ⟨rfl, rfl⟩ := hadr
        have hgx' : r1.args[0] = x := by simp [hcar]
        have hgy' : r1.args[1] = y := by simp [hcar]
        rw [hgx', Nat.zero_mul, Nat.add_zero] at e0 e1 e2
        rw [Nat.zero_mul, Nat.add_zero] at e3
        rw [hgx'] at hTx
        rw [hgy'] at f0 f1 f2 hTy
        simp only [Nat.one_mul] at f0 f1 f2 f3
        obtain ⟨A4, c4, rfl, _⟩ := hTx.form
        obtain ⟨A5, c5, rfl, _⟩ := hTy.form
        have hViy : VIn σ y := HV1.out.arg (by rw [h5]; decide) (by rw [hcar]; simp)
        have hl3 : (1 : Int) < (r1.args.length : Int) := by omega
        have hl0 : (0 : Int) < (r1.args.length : Int) := by omega
        have hl4 : r1.args.length ≤ 9223372036854775807 := by unfold maxLen at hcm7; omega
        have hgyb : gy < b0 := by have := (HU.out.im gy hgy).1; have := HB0.out; omega
        have HTx := Lib.hid hTx
        have HTy := Lib.hid hTy
        have HVy := Lib.hid hViy
        have HNm := Lib.hid HTt.out.name
        clear hTx hTy hViy hcar hgx' hgy' h0 h5
        by_cases hnm : r1.name = label
        · rw [if_pos hnm] at hr1
          simp only [Option.some.injEq, Prod.mk.injEq] at hr1
          have HR1 := Lib.hid hr1
          have hnb : (r1.name.toList == label.toList) = true := str_yes hnm
          clear hr1 hnm
          have hQ : Hid (∀ X, Keeps (fun i => i = b0 + 1 ∨ i = b0 + 2) wc X → (X.cell? ⟨b0, 3, none⟩ = some (.slice (some ⟨gy, off, none⟩) r1.args.length c7) ∧ X.cell? ⟨gy, off, none⟩ = some (.int .i64 x.kind) ∧ X.cell? ⟨gy, off + 1, none⟩ = some (.string x.name) ∧ X.cell? ⟨gy, off + 2, none⟩ = some (.int .i64 x.var) ∧ X.cell? ⟨gy, off + 3, none⟩ = some (.slice A4 x.args.length c4) ∧ X.cell? ⟨gy, off + 4, none⟩ = some (.int .i64 y.kind) ∧ X.cell? ⟨gy, off + 4 + 1, none⟩ = some (.string y.name) ∧ X.cell? ⟨gy, off + 4 + 2, none⟩ = some (.int .i64 y.var) ∧ X.cell? ⟨gy, off + 4 + 3, none⟩ = some (.slice A5 y.args.length c5))) := fun X hk =>
            ⟨hk.cell d3 (fun h => by rcases h with h | h <;> (dsimp at h; omega)), hk.cell e0 (fun h => by rcases h with h | h <;> (dsimp at h; omega)), hk.cell e1 (fun h => by rcases h with h | h <;> (dsimp at h; omega)), hk.cell e2 (fun h => by rcases h with h | h <;> (dsimp at h; omega)), hk.cell e3 (fun h => by rcases h with h | h <;> (dsimp at h; omega)), hk.cell f0 (fun h => by rcases h with h | h <;> (dsimp at h; omega)), hk.cell f1 (fun h => by rcases h with h | h <;> (dsimp at h; omega)), hk.cell f2 (fun h => by rcases h with h | h <;> (dsimp at h; omega)), hk.cell f3 (fun h => by rcases h with h | h <;> (dsimp at h; omega))⟩
          go_wp2_with fail
          go_region_held3 (fun X => X.cell? ⟨b0, 3, none⟩ = some (.slice (some ⟨gy, off, none⟩) r1.args.length c7) ∧ X.cell? ⟨gy, off, none⟩ = some (.int .i64 x.kind) ∧ X.cell? ⟨gy, off + 1, none⟩ = some (.string x.name) ∧ X.cell? ⟨gy, off + 2, none⟩ = some (.int .i64 x.var) ∧ X.cell? ⟨gy, off + 3, none⟩ = some (.slice A4 x.args.length c4) ∧ X.cell? ⟨gy, off + 4, none⟩ = some (.int .i64 y.kind) ∧ X.cell? ⟨gy, off + 4 + 1, none⟩ = some (.string y.name) ∧ X.cell? ⟨gy, off + 4 + 2, none⟩ = some (.int .i64 y.var) ∧ X.cell? ⟨gy, off + 4 + 3, none⟩ = some (.slice A5 y.args.length c5))
            (exact hQ.out _ (by repeat (first | (with_reducible assumption) | (with_reducible exact Keeps.refl _ _) | (with_reducible refine Keeps.drewN ?_ _) | (with_reducible refine Keeps.drew ?_) | with_reducible refine Keeps.setCell ?_ (by first | (intro _; exact rfl) | (intro _; exact Or.inl rfl) | (intro _; exact Or.inr rfl) | (simp; done) | (simp; omega)) _ | (with_reducible refine Keeps.alloc ?_ _))))
            (fail)
          go_wp2_with fail
          obtain ⟨hA, hKA⟩ := four HY1.out (.int .i64 x.kind) (.string x.name) (.int .i64 x.var) (.slice A4 x.args.length c4)
          obtain ⟨hC, hKC⟩ := four (HY2.out.keeps hKA (fun e => hb12 e.symm)) (.int .i64 y.kind) (.string y.name) (.int .i64 y.var) (.slice A5 y.args.length c5)
          have hbz : Below W.heap.size W _ := ((HBc.out.trans (hKA.below (fun i h => by have := HB0.out; omega) HBc.out.size)).trans (hKC.below (fun i h => by have := HB0.out; omega) (by have := HBc.out.size; have := hKA.size; omega))).drew
          obtain ⟨rfl, rfl, rfl, rfl⟩ := HR1.out
          have hkz := Keeps.of_below (X := fun b => b = p ∨ b = g) hbz
          have hall := ((Keeps.refl (fun i => i = b0 + 1 ∨ i = b0 + 2) wc).trans (hKA.mono (Y := fun i => i = b0 + 1 ∨ i = b0 + 2) (fun i _ h => .inl h)) (fun _ _ h => h)).trans (hKC.mono (Y := fun i => i = b0 + 1 ∨ i = b0 + 2) (fun i _ h => .inr h)) (fun _ _ h => h)
          exact ret_rows2 Tryd.results45 rfl rfl rfl (hA.keeps hKC hb12).drew hC.drew Tryd.underlying24 (by kernel_rfl) (by kernel_rfl) rfl ⟨_, _, F, _, g, rfl, HTx.out.keeps hall.drew (fun i hi h => by have := (HU.out.im i hi).1; have := HB0.out; omega), HTy.out.keeps hall.drew (fun i hi h => by have := (HU.out.im i hi).1; have := HB0.out; omega), HU.out.later hbz, hkz, .inl rfl, fun _ h => h, fun _ h => .inl h⟩
        · rw [if_neg hnm] at hr1
          have hnb : (r1.name.toList == label.toList) = false := str_no hnm
          cases hex : extractP k label not q σ y with
          | none => rw [hex] at hr1; cases hr1
          | some pr =>
          obtain ⟨u', rest', e', σ''⟩ := pr
          rw [hex] at hr1
          simp only [Option.some.injEq, Prod.mk.injEq] at hr1
          have HR1 := Lib.hid hr1
          have hyp := HIH.out F wc p _ g σ y _ u' rest' e' σ'' HLen.out (HU.out.later HBc.out) HTy.out HVy.out hex
          unfold tyV at hyp
          have HEx := Lib.hid hyp
          clear hr1 hnm hex hyp
          go_wp2_with fail
          with_reducible refine HEx.out.mono ?_
          rintro e w2 ⟨av1, bv1, F1, sv1, g1, rfl, hTu, hTr, hN1⟩
          have hk1 := hN1.keeps
          obtain ⟨A8, c8, rfl, hlc8, hcm8, _⟩ := hTu.form
          obtain ⟨A9, c9, rfl, hlc9, hcm9, _⟩ := hTr.form
          unfold tyV
          obtain ⟨b3, hb3⟩ : ∃ b3, w2.heap.size = b3 := ⟨_, rfl⟩
          obtain ⟨Wq, hWq⟩ : ∃ Wq, (w2.alloc (.cells #[.int .i64 u'.kind, .string u'.name, .int .i64 u'.var, .slice A8 u'.args.length c8] 24)).alloc (.cells #[.int .i64 rest'.kind, .string rest'.name, .int .i64 rest'.var, .slice A9 rest'.args.length c9] 24) = Wq := ⟨_, rfl⟩
          have hkq : Keeps (fun _ => False) w2 Wq := by rw [← hWq]; exact ((Keeps.refl _ _).alloc _).alloc _
          have hq1 : Blk Wq b3 24 [.int .i64 u'.kind, .string u'.name, .int .i64 u'.var, .slice A8 u'.args.length c8] := by
            rw [← hWq, ← hb3]; exact (Blk.new w2 _ [_, _, _, _]).alloc _
          have hq2 : Blk Wq (b3 + 1) 24 [.int .i64 rest'.kind, .string rest'.name, .int .i64 rest'.var, .slice A9 rest'.args.length c9] := by
            have := Blk.new (w2.alloc (.cells #[.int .i64 u'.kind, .string u'.name, .int .i64 u'.var, .slice A8 u'.args.length c8] 24)) 24 [.int .i64 rest'.kind, .string rest'.name, .int .i64 rest'.var, .slice A9 rest'.args.length c9]
            rw [hWq] at this
            simpa [hb3] using this
          have hkc : Keeps (fun b => b = p ∨ b = g) wc Wq := hk1.trans hkq (fun _ _ h => h.elim)
          have hwcs := hk1.size
          have hgyl := hgyb
          have hg0 : b0 ≠ g := by omega
          have hg1' : b0 + 1 ≠ g := by have := HB0.out; omega
          have hg2' : b0 + 2 ≠ g := by have := HB0.out; omega
          have hp1' : b0 + 1 ≠ p := by omega
          have hp2' : b0 + 2 ≠ p := by omega
          have hcb := HBt.out.keeps hkc (fun h => by omega)
          have hgym : gy ≠ p ∧ gy ≠ g := (HU.out.im gy hgy).2
          have j1 := hcb.cell (i := 1) rfl
          have j3 := hcb.cell (i := 3) rfl
          have i0 := hkc.cell e0 (fun h => by have := hgym; dsimp at h; omega)
          have i1 := hkc.cell e1 (fun h => by have := hgym; dsimp at h; omega)
          have i2 := hkc.cell e2 (fun h => by have := hgym; dsimp at h; omega)
          have i3 := hkc.cell e3 (fun h => by have := hgym; dsimp at h; omega)
          have l0 := hq1.cell (i := 0) rfl
          have l1 := hq1.cell (i := 1) rfl
          have l2 := hq1.cell (i := 2) rfl
          have l3 := hq1.cell (i := 3) rfl
          have r0 := hq2.cell (i := 0) rfl
          have r1' := hq2.cell (i := 1) rfl
          have r2 := hq2.cell (i := 2) rfl
          have r3 := hq2.cell (i := 3) rfl
          have hb30 : b0 + 2 < b3 := by omega
          have hY1q := HY1.out.keeps hkc (fun h => by omega)
          have hY2q := HY2.out.keeps hkc (fun h => by omega)
          have HY1q := Lib.hid hY1q
          have HY2q := Lib.hid hY2q
          have hxq := (HTx.out.keeps hk1 (fun i hi h => by have := (HU.out.im i hi).2; omega)).mono hN1.up
          have HEe := Lib.hid (fun X (hb : Below Wq.heap.size Wq X) => ext_any r1.name HNm.out X F1 x rest' _ _ ((hxq.keeps hkq (fun _ _ h => h)).later hb) ((hTr.keeps hkq (fun _ _ h => h)).later hb))
          unfold tyV at HEe
          have HN1 := Lib.hid hN1
          have HTu := Lib.hid hTu
          have HK1 := Lib.hid hk1
          have HKq := Lib.hid hkq
          have HB3 := Lib.hid hb3
          have HWq := Lib.hid hWq
          have hQ : Hid (∀ X, Keeps (fun i => i = b0 + 1 ∨ i = b0 + 2) Wq X → (X.cell? ⟨b3, 0, none⟩ = some (.int .i64 u'.kind) ∧ X.cell? ⟨b3, 1, none⟩ = some (.string u'.name) ∧ X.cell? ⟨b3, 2, none⟩ = some (.int .i64 u'.var) ∧ X.cell? ⟨b3, 3, none⟩ = some (.slice A8 u'.args.length c8) ∧ X.cell? ⟨b3 + 1, 0, none⟩ = some (.int .i64 rest'.kind) ∧ X.cell? ⟨b3 + 1, 1, none⟩ = some (.string rest'.name) ∧ X.cell? ⟨b3 + 1, 2, none⟩ = some (.int .i64 rest'.var) ∧ X.cell? ⟨b3 + 1, 3, none⟩ = some (.slice A9 rest'.args.length c9) ∧ X.cell? ⟨b0, 1, none⟩ = some (.string r1.name) ∧ X.cell? ⟨b0, 3, none⟩ = some (.slice (some ⟨gy, off, none⟩) r1.args.length c7) ∧ X.cell? ⟨gy, off, none⟩ = some (.int .i64 x.kind) ∧ X.cell? ⟨gy, off + 1, none⟩ = some (.string x.name) ∧ X.cell? ⟨gy, off + 2, none⟩ = some (.int .i64 x.var) ∧ X.cell? ⟨gy, off + 3, none⟩ = some (.slice A4 x.args.length c4))) := fun X hk =>
            ⟨hk.cell l0 (fun h => by rcases h with h | h <;> (dsimp at h; omega)), hk.cell l1 (fun h => by rcases h with h | h <;> (dsimp at h; omega)), hk.cell l2 (fun h => by rcases h with h | h <;> (dsimp at h; omega)), hk.cell l3 (fun h => by rcases h with h | h <;> (dsimp at h; omega)), hk.cell r0 (fun h => by rcases h with h | h <;> (dsimp at h; omega)), hk.cell r1' (fun h => by rcases h with h | h <;> (dsimp at h; omega)), hk.cell r2 (fun h => by rcases h with h | h <;> (dsimp at h; omega)), hk.cell r3 (fun h => by rcases h with h | h <;> (dsimp at h; omega)), hk.cell j1 (fun h => by rcases h with h | h <;> (dsimp at h; omega)), hk.cell j3 (fun h => by rcases h with h | h <;> (dsimp at h; omega)), hk.cell i0 (fun h => by rcases h with h | h <;> (dsimp at h; omega)), hk.cell i1 (fun h => by rcases h with h | h <;> (dsimp at h; omega)), hk.cell i2 (fun h => by rcases h with h | h <;> (dsimp at h; omega)), hk.cell i3 (fun h => by rcases h with h | h <;> (dsimp at h; omega))⟩
          clear hN1 hTu hTr hk1 hkq hb3 hWq hq1 hq2 hcb hY1q hY2q hxq hkc d0 d1 d2 d3 x0 x1 x2 x3 y0 y1 y2 y3 e0 e1 e2 e3 f0 f1 f2 f3 xf0 xf1 xf2 xf3 yf0 yf1 yf2 yf3
          go_wp2_with fail
          rw [HWq.out, HB3.out]
          go_region_held3 (fun X => X.cell? ⟨b3, 0, none⟩ = some (.int .i64 u'.kind) ∧ X.cell? ⟨b3, 1, none⟩ = some (.string u'.name) ∧ X.cell? ⟨b3, 2, none⟩ = some (.int .i64 u'.var) ∧ X.cell? ⟨b3, 3, none⟩ = some (.slice A8 u'.args.length c8) ∧ X.cell? ⟨b3 + 1, 0, none⟩ = some (.int .i64 rest'.kind) ∧ X.cell? ⟨b3 + 1, 1, none⟩ = some (.string rest'.name) ∧ X.cell? ⟨b3 + 1, 2, none⟩ = some (.int .i64 rest'.var) ∧ X.cell? ⟨b3 + 1, 3, none⟩ = some (.slice A9 rest'.args.length c9) ∧ X.cell? ⟨b0, 1, none⟩ = some (.string r1.name) ∧ X.cell? ⟨b0, 3, none⟩ = some (.slice (some ⟨gy, off, none⟩) r1.args.length c7) ∧ X.cell? ⟨gy, off, none⟩ = some (.int .i64 x.kind) ∧ X.cell? ⟨gy, off + 1, none⟩ = some (.string x.name) ∧ X.cell? ⟨gy, off + 2, none⟩ = some (.int .i64 x.var) ∧ X.cell? ⟨gy, off + 3, none⟩ = some (.slice A4 x.args.length c4))
            (exact hQ.out _ (by repeat (first | (with_reducible assumption) | (with_reducible exact Keeps.refl _ _) | (with_reducible refine Keeps.drewN ?_ _) | (with_reducible refine Keeps.drew ?_) | with_reducible refine Keeps.setCell ?_ (by first | (intro _; exact rfl) | (intro _; exact Or.inl rfl) | (intro _; exact Or.inr rfl) | (simp; done) | (simp; omega)) _ | (with_reducible refine Keeps.alloc ?_ _))))
            ((go_at_call 36; refine (HEe.out _ (by repeat (first | (with_reducible assumption) | (with_reducible exact Below.refl _ _) | (with_reducible refine Below.drewN ?_ _) | (with_reducible refine Below.drew ?_) | with_reducible refine Below.setCell ?_ (by first | exact Nat.le_refl _ | (simp; done) | (simp; omega)) _ | with_reducible refine Below.alloc ?_ (by first | exact Nat.le_refl _ | omega | (simp; done) | (simp; omega)) _))).mono ?_; rintro e w3 ⟨av3, rfl, hT3, hb3⟩; obtain ⟨A6, c6, rfl, hlc6, hcm6, _⟩ := hT3.form; unfold tyV; have hb4 : Below Wq.heap.size Wq w3 := Below.trans (by repeat (first | (with_reducible assumption) | (with_reducible exact Below.refl _ _) | (with_reducible refine Below.drewN ?_ _) | (with_reducible refine Below.drew ?_) | with_reducible refine Below.setCell ?_ (by first | exact Nat.le_refl _ | (simp; done) | (simp; omega)) _ | with_reducible refine Below.alloc ?_ (by first | exact Nat.le_refl _ | omega | (simp; done) | (simp; omega)) _)) (hb3.mono (by simp)); have hk4 : Keeps (fun i => i = b0 + 1 ∨ i = b0 + 2) Wq w3 := Keeps.of_below hb4; have hA3 := HY1q.out.later hb4; have hC3 := HY2q.out.later hb4; have x0 := hA3.cell (i := 0) rfl; have x1 := hA3.cell (i := 1) rfl; have x2 := hA3.cell (i := 2) rfl; have x3 := hA3.cell (i := 3) rfl; have y0 := hC3.cell (i := 0) rfl; have y1 := hC3.cell (i := 1) rfl; have y2 := hC3.cell (i := 2) rfl; have y3 := hC3.cell (i := 3) rfl; have xf0 := hA3.free 0; have xf1 := hA3.free 1; have xf2 := hA3.free 2; have xf3 := hA3.free 3; have yf0 := hC3.free 0; have yf1 := hC3.free 1; have yf2 := hC3.free 2; have yf3 := hC3.free 3))
          all_goals
            go_wp2_with fail
            obtain ⟨hA, hKA⟩ := four hA3 (.int .i64 u'.kind) (.string u'.name) (.int .i64 u'.var) (.slice A8 u'.args.length c8)
            obtain ⟨hC, hKC⟩ := four (hC3.keeps hKA (fun e => hb12 e.symm)) (.int .i64 (extT r1.name x rest').kind) (.string (extT r1.name x rest').name) (.int .i64 (extT r1.name x rest').var) (.slice A6 (extT r1.name x rest').args.length c6)
            have hall := ((Keeps.refl (fun i => i = b0 + 1 ∨ i = b0 + 2) w3).trans (hKA.mono (Y := fun i => i = b0 + 1 ∨ i = b0 + 2) (fun i _ h => .inl h)) (fun _ _ h => h)).trans (hKC.mono (Y := fun i => i = b0 + 1 ∨ i = b0 + 2) (fun i _ h => .inr h)) (fun _ _ h => h)
            have hq3 : Keeps (fun _ => False) w2 w3 := HKq.out.trans (Keeps.of_below (X := fun _ => False) hb4) (fun _ _ h => h)
            have hB0 := HB0.out
            have hcs := HBc.out.size
            have hws := HK1.out.size
            have hqs := HKq.out.size
            have h4s := hb4.size
            have h1b : ∀ i, F1 i → i ≠ b0 + 1 ∧ i ≠ b0 + 2 := fun i hi => by
              rcases HN1.out.new i hi with h | h
              · have := (HU.out.im i h).1; omega
              · omega
            have hg1b : g1 ≠ b0 + 1 ∧ g1 ≠ b0 + 2 := by
              rcases HN1.out.at_ with h | h
              · rw [h]; omega
              · omega
            have hUf := ((HN1.out.uni.keeps hq3 (fun h => h) (fun h => h) (fun _ _ h => h)).keeps hall (by omega) (by omega) (fun i hi h => by have := h1b i hi; omega))
            have hkf : Keeps (fun b => b = p ∨ b = g) W _ := (((Keeps.of_below (X := fun b => b = p ∨ b = g) HBc.out).trans HK1.out (fun _ _ h => h)).trans hq3 (fun _ _ h => h.elim)).trans hall (fun i hi h => by omega)
            have hnw : ∀ i, Since F1 Wq w3 i → i ≠ b0 + 1 ∧ i ≠ b0 + 2 := fun i hi => by
              rcases hi with h | h
              · exact h1b i h
              · have := h.1; omega
            have hTe := hT3.keeps hall (fun i hi h => by have := hnw i hi; omega)
            have hTu2 := (HTu.out.keeps hq3 (fun _ _ h => h)).keeps hall (fun i hi h => by have := h1b i hi; omega)
            have hgl1 := HN1.out.uni.glt
            have hals := hall.size
            obtain ⟨rfl, rfl, rfl, rfl⟩ := HR1.out
            refine ret_rows2 Tryd.results45 rfl rfl rfl (hA.keeps hKC hb12) hC Tryd.underlying24 (by kernel_rfl) (by kernel_rfl) rfl ⟨_, _, Since F1 Wq w3, sv1, g1, rfl, hTu2.mono (fun b h => .inl h), hTe, hUf.mono (fun b h => .inl h) (fun b hb => ?_), hkf, HN1.out.at_.imp id (fun h => Nat.le_trans HBc.out.size h), fun b h => .inl (HN1.out.up b h), fun b hb => ?_⟩
            · rcases hb with h | h
              · exact hUf.im b h
              · exact ⟨Nat.lt_of_lt_of_le h.2 hals, by have := h.1; omega, by have := h.1; omega⟩
            · rcases hb with h | h
              · rcases HN1.out.new b h with h | h
                · exact .inl h
                · exact .inr (Nat.le_trans HBc.out.size h)
              · exact .inr (by have := h.1; omega)
      · rw [if_pos h5] at hr1
        simp only [Option.some.injEq, Prod.mk.injEq] at hr1
        have HR1 := Lib.hid hr1
        have h5b : (r1.kind != 5) = true := by rw [bne_iff_ne]; exact h5
        clear hr1 h0 h5
        go_wp2_with fail
        obtain ⟨rfl, rfl, rfl, rfl⟩ := HR1.out
        obtain ⟨hA, hKA⟩ := four HY1.out (.int .i64 0) (.string ⟨#[]⟩) (.int .i64 0) (.slice none 0 0)
        obtain ⟨hC, hKC⟩ := four (HY2.out.keeps hKA (fun e => hb12 e.symm)) (.int .i64 0) (.string ⟨#[]⟩) (.int .i64 0) (.slice none 0 0)
        have hbz : Below W.heap.size W _ := (HBc.out.trans (hKA.below (fun i h => by have := HB0.out; omega) HBc.out.size)).trans (hKC.below (fun i h => by have := HB0.out; omega) (by have := HBc.out.size; have := hKA.size; omega))
        exact ret_rows2 Tryd.results45 rfl rfl rfl (hA.keeps hKC hb12) hC Tryd.underlying24 (by kernel_rfl) (by kernel_rfl) rfl ⟨_, _, F, _, g, rfl, zeroC _ _, zeroC _ _, HU.out.later hbz, Keeps.of_below hbz, .inl rfl, fun _ h => h, fun _ h => .inl h⟩
theorem extr_any (k : Nat) (label : ByteArray) (not : Int) (hlab : label.size ≤ maxLen) : ∀ q, ExtrAt k label not q
  | 0 => extr_step k label not hlab 0 fun _ h => by omega
  | q + 1 => extr_step k label not hlab (q + 1) fun m h => by
    obtain rfl : q = m := by omega
    exact extr_any k label not hlab q
end Go.Proofs.YthchnabhbpdfgaaDoor
