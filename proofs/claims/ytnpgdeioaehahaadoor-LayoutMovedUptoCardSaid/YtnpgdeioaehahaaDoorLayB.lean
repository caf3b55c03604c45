/- The layout's marker: before. -/
import Derived.Test.YtnpgdeioaehahaaDoorLayI
namespace Go.Proofs.YtnpgdeioaehahaaDoor
open Go.RowKit Go.Shelf

theorem letsP_ne {s : List Ctx} (h : letsP s = true) : s ≠ [] := fun e => by rw [e] at h; cases h
theorem inL_go (t : Tok) {m : Mk} (h : letsP m.st = true) : inL t m.st.length m = (if (topP m.st).op = sLet then m.close t else inL t (m.close t).st.length (m.close t)) ∧ ((topP m.st).op ≠ sLet → letsP (m.close t).st = true) := by
  have hne := letsP_ne h
  have h1 := close_len t hne
  obtain ⟨s, c, hs⟩ := snoc_of_ne hne
  have hst : (m.close t).st = s := by show m.st.dropLast = s; rw [hs, List.dropLast_concat]
  refine ⟨by rw [← h1, inL], fun ho => ?_⟩
  rw [hs] at h
  rw [hst]
  exact (letsP_snoc s c h).2 (fun e => ho (by rw [hs, topP_app]; exact e))
theorem phi_shutL (t : Tok) : ∀ (n : Nat) (m : Mk), phi (shutL t n m) = phi m
  | 0, _ => rfl
  | n + 1, m => by
    rw [shutL]
    split
    · rename_i h
      rw [phi_shutL t n, phi_close t (top_ne (c := 0) (by omega) h)]
    · rfl
set_option maxRecDepth 100000 in
set_option maxHeartbeats 16000000 in
theorem before_any (W : World) (B bm : Nat) (sv ov : Value) (m : Mk) (h : MkAt W B bm sv ov m) (hB : B ≤ W.heap.size) (t : Tok) (ht : TokOk t) (hn : phi m ≤ 200000) :
    Calls Tryd.prog 61 #[.pointer (some ⟨bm, 0, none⟩), .agg #[.int .i64 t.kind, .string t.text, .int .i64 t.n, .int .i64 t.line, .int .i64 t.col]] W (fun e w' => e = .returned (.tuple #[]) ∧ MkTo B bm sv ov W (beforeP t m) w') := by
  obtain ⟨b3, hb3⟩ : ∃ b3, W.heap.size = b3 := ⟨_, rfl⟩
  obtain ⟨W0, hW0⟩ : ∃ W0, W.alloc (.cells #[.int .i64 t.kind, .string t.text, .int .i64 t.n, .int .i64 t.line, .int .i64 t.col] 28) = W0 := ⟨_, rfl⟩
  have hk0 : Keeps (fun _ => False) W W0 := by rw [← hW0]; exact (Keeps.refl _ _).alloc _
  have hB3 : Blk W0 b3 28 [.int .i64 t.kind, .string t.text, .int .i64 t.n, .int .i64 t.line, .int .i64 t.col] := by rw [← hW0, ← hb3]; exact Blk.new W _ [_, _, _, _, _]
  have hs0 := hk0.size
  have h0 := Lib.hid (h.same hk0)
  have hno : Hid (∀ i, Own3 bm sv ov i → i ≠ b3) := fun i hi e => by have := h.lt i hi; omega
  have HK0 := Lib.hid hk0
  have HB3 := Lib.hid hB3
  have HW0 := Lib.hid hW0
  have HBn := Lib.hid hb3
  have HT := Lib.hid ht
  have HBB : Hid (B ≤ W0.heap.size) := by show _ ≤ _; omega
  have hph := Lib.hid hn
  obtain ⟨q1, hq1⟩ : ∃ q, isP t 5 sClP = q := ⟨_, rfl⟩
  obtain ⟨q2, hq2⟩ : ∃ q, isP t 5 sClB = q := ⟨_, rfl⟩
  obtain ⟨q3, hq3⟩ : ∃ q, isP t 5 sCom = q := ⟨_, rfl⟩
  obtain ⟨q4, hq4⟩ : ∃ q, isP t 4 sIn = q := ⟨_, rfl⟩
  have HI1 : Hid (∀ X, Calls Tryd.prog 57 #[.agg #[.int .i64 t.kind, .string t.text, .int .i64 t.n, .int .i64 t.line, .int .i64 t.col], .int .i64 5, .string ⟨#[41]⟩] X (fun e w' => e = .returned (.bool q1) ∧ Keeps (fun _ => False) X w')) := fun X => by rw [← hq1]; exact is_any t 5 sClP X
  have HI2 : Hid (∀ X, Calls Tryd.prog 57 #[.agg #[.int .i64 t.kind, .string t.text, .int .i64 t.n, .int .i64 t.line, .int .i64 t.col], .int .i64 5, .string ⟨#[125]⟩] X (fun e w' => e = .returned (.bool q2) ∧ Keeps (fun _ => False) X w')) := fun X => by rw [← hq2]; exact is_any t 5 sClB X
  have HI3 : Hid (∀ X, Calls Tryd.prog 57 #[.agg #[.int .i64 t.kind, .string t.text, .int .i64 t.n, .int .i64 t.line, .int .i64 t.col], .int .i64 5, .string ⟨#[44]⟩] X (fun e w' => e = .returned (.bool q3) ∧ Keeps (fun _ => False) X w')) := fun X => by rw [← hq3]; exact is_any t 5 sCom X
  have HI4 : Hid (∀ X, Calls Tryd.prog 57 #[.agg #[.int .i64 t.kind, .string t.text, .int .i64 t.n, .int .i64 t.line, .int .i64 t.col], .int .i64 4, .string ⟨#[105, 110]⟩] X (fun e w' => e = .returned (.bool q4) ∧ Keeps (fun _ => False) X w')) := fun X => by rw [← hq4]; exact is_any t 4 sIn X
  obtain ⟨R, hR⟩ : ∃ R, beforeP t m = R := ⟨_, rfl⟩
  rw [hR]
  unfold beforeP at hR
  rw [hq1, hq2, hq3, hq4] at hR
  have HR := Lib.hid hR
  have HFin : Hid (∀ w', MkTo B bm sv ov W0 R w' → MkTo B bm sv ov W R w') := fun w' hT => MkTo.trans (HK0.out.mono (fun _ _ h => h.elim)) (fun i hi => .inl hi) hT
  have HShut : Hid (∀ X, Keeps (fun _ => False) W0 X → Calls Tryd.prog 87 #[.pointer (some ⟨bm, 0, none⟩), .agg #[.int .i64 t.kind, .string t.text, .int .i64 t.n, .int .i64 t.line, .int .i64 t.col]] X (fun e w' => e = .returned (.tuple #[]) ∧ MkTo B bm sv ov X (shutP t m) w')) := fun X hk => shut_any X B bm sv ov m (h0.out.same hk) (by have := hk.size; have := HBB.out; omega) t HT.out hph.out
  have HTok : Hid (∀ X, Keeps (fun _ => False) W0 X → Blk X b3 28 [.int .i64 t.kind, .string t.text, .int .i64 t.n, .int .i64 t.line, .int .i64 t.col]) := fun X hk => HB3.out.keeps hk (fun h => h)
  clear h hk0 hB3 hW0 hb3 ht hs0 hn hB hR hq1 hq2 hq3 hq4
  go_enter Tryd.func61, Tryd.ntmps61
  go_upto_region 1 with (fail)
  rw [HW0.out, HBn.out]
  have hb := HTok.out W0 (Keeps.refl _ _)
  have x0 := hb.cell (i := 0) rfl
  have x1 := hb.cell (i := 1) rfl
  have x2 := hb.cell (i := 2) rfl
  have x3 := hb.cell (i := 3) rfl
  have x4 := hb.cell (i := 4) rfl
  clear hb
  go_cut [6] from 7 to 12 (fun v6 wd => v6 = .bool (q1 || q2) ∧ Keeps (fun _ => False) W0 wd)
  case first =>
    go_wp2_with fail
    with_reducible refine (HI1.out _).mono ?_
    rintro e w1 ⟨rfl, hk1⟩
    have hb := HTok.out w1 hk1
    have x0 := hb.cell (i := 0) rfl
    have x1 := hb.cell (i := 1) rfl
    have x2 := hb.cell (i := 2) rfl
    have x3 := hb.cell (i := 3) rfl
    have x4 := hb.cell (i := 4) rfl
    have HK1 := Lib.hid hk1
    clear hb hk1
    cases q1
    · go_wp2_with fail
      with_reducible refine (HI2.out _).mono ?_
      rintro e w2 ⟨rfl, hk2⟩
      have HK2 := Lib.hid (HK1.out.trans hk2 (fun _ _ h => h))
      clear hk2
      go_wp2_with fail
      go_meet
      exact ⟨rfl, HK2.out⟩
    · go_wp2_with fail
      go_meet
      exact ⟨rfl, HK1.out⟩
  case rest =>
    obtain ⟨rfl, hkc⟩ := hcut
    clear x0 x1 x2 x3 x4
    have HKc := Lib.hid hkc
    have hb := HTok.out wc hkc
    have x0 := hb.cell (i := 0) rfl
    have x1 := hb.cell (i := 1) rfl
    have x2 := hb.cell (i := 2) rfl
    have x3 := hb.cell (i := 3) rfl
    have x4 := hb.cell (i := 4) rfl
    clear hb hkc
    obtain ⟨qa, hqa⟩ : ∃ qa, (q1 || q2) = qa := ⟨_, rfl⟩
    rw [hqa] at HR ⊢
    clear hqa HI1 HI2
    cases qa
    · have hr1 := HR.out
      rw [if_neg (by decide)] at hr1
      have HR1 := Lib.hid hr1
      clear hr1 HR
      go_wp2_with fail
      with_reducible refine (HI3.out _).mono ?_
      rintro e w1 ⟨rfl, hk1⟩
      have hk1' := HKc.out.trans hk1 (fun _ _ h => h)
      have HK1 := Lib.hid hk1'
      have hb := HTok.out w1 hk1'
      have x0 := hb.cell (i := 0) rfl
      have x1 := hb.cell (i := 1) rfl
      have x2 := hb.cell (i := 2) rfl
      have x3 := hb.cell (i := 3) rfl
      have x4 := hb.cell (i := 4) rfl
      have hM1 := h0.out.same hk1'
      have HM1 := Lib.hid hM1
      have hc0 := hM1.box.cell (i := 0) rfl
      have hlb := hM1.box.lt
      have hsl := hM1.sl
      obtain ⟨A, cc, A2, c2, rfl, rfl, _, _, _, _⟩ := hM1.form
      have HCF : Hid (Calls Tryd.prog 88 #[.slice A m.st.length cc, .func (.func 89) #[] #[]] w1 (fun e w' => e = .returned (.bool (m.st.any (fun c => decide (c.col = 0)))) ∧ Keeps (fun _ => False) w1 w')) := by
        refine (ctxContainsFunc m.st _ _ w1 hsl 89 #[] (fun c => decide (c.col = 0)) (enters_of Tryd.func89 (by kernel_rfl) rfl) (fun i h cs w2 hb2 hr => bclo1 _ _ w2 cs hr)).mono ?_
        rintro e w' ⟨he, hb⟩
        exact ⟨he, Keeps.of_below (X := fun _ => False) hb⟩
      clear hb hk1 hk1' HI3 hM1 hsl
      cases q3
      · have hr1 := HR1.out
        rw [if_neg (by decide)] at hr1
        have HR2 := Lib.hid hr1
        clear hr1 HR1 HCF hc0
        go_wp2_with fail
        with_reducible refine (HI4.out _).mono ?_
        rintro e w2 ⟨rfl, hk2⟩
        have hk2' := HK1.out.trans hk2 (fun _ _ h => h)
        have HK2 := Lib.hid hk2'
        have hM2 := HM1.out.same hk2
        have HM2 := Lib.hid hM2
        have HIn := Lib.hid (linner_any w2 B bm _ _ m hM2)
        clear hk2 hk2' HI4 hM2 x0 x1 x2 x3 x4
        cases q4
        · have hr1 := HR2.out
          rw [if_neg (by decide)] at hr1
          have HF : Hid (MkTo B bm (.slice A m.st.length cc) (.slice A2 m.out.length c2) W R w2) := HFin.out _ (by rw [← hr1]; exact MkTo.same h0.out HK2.out)
          clear hr1 HR2 HIn
          go_wp2_with fail
          go_end0
          exact ⟨rfl, HF.out⟩
        · have hr1 := HR2.out
          rw [if_pos rfl] at hr1
          have HR3 := Lib.hid hr1
          clear hr1 HR2
          go_wp2_with fail
          with_reducible refine HIn.out.mono ?_
          rintro e w3 ⟨hk3, v, rfl, hsv⟩
          obtain ⟨Av, cv, rfl, _⟩ := hsv.form
          have HCF2 : Hid (Calls Tryd.prog 88 #[.slice Av (innerP m.st).length cv, .func (.func 91) #[] #[]] w3 (fun e w' => e = .returned (.bool (letsP m.st)) ∧ Keeps (fun _ => False) w3 w')) := by
            refine (ctxContainsFunc (innerP m.st) _ _ w3 hsv 91 #[] (fun c => decide (c.op = sLet)) (enters_of Tryd.func91 (by kernel_rfl) rfl) (fun i h cs w2 hb2 hr => bclo2 _ _ w2 cs hr)).mono ?_
            rintro e w' ⟨he, hb⟩
            exact ⟨he, Keeps.of_below (X := fun _ => False) hb⟩
          have HK3 := Lib.hid (HK2.out.trans hk3 (fun _ _ h => h))
          clear hk3 hsv HIn
          go_wp2_with fail
          with_reducible refine HCF2.out.mono ?_
          rintro e w4 ⟨rfl, hk4⟩
          have HK4 := Lib.hid (HK3.out.trans hk4 (fun _ _ h => h))
          clear hk4 HCF2
          obtain ⟨lt, hlt⟩ : ∃ lt, letsP m.st = lt := ⟨_, rfl⟩
          rw [hlt] at HR3 ⊢
          have HLt := Lib.hid hlt
          clear hlt
          have HSt : Hid (∃ m', MkTo B bm (.slice A m.st.length cc) (.slice A2 m.out.length c2) W0 m' w4 ∧ m'.st.length ≤ m.st.length + 1 ∧ Hid (phi m' ≤ 200000) ∧ ((lt = true ∧ Hid (letsP m'.st = true ∧ inL t m'.st.length m' = R)) ∨ (lt = false ∧ Hid (m' = R)))) := by
            refine ⟨m, MkTo.same h0.out HK4.out, by omega, hph.out, ?_⟩
            have hr3 := HR3.out
            cases lt
            · exact .inr ⟨rfl, by rw [if_neg (by decide)] at hr3; exact hr3⟩
            · exact .inl ⟨rfl, ⟨HLt.out, by rw [if_pos rfl] at hr3; exact hr3⟩⟩
          clear hlb
          go_wp2_with fail
          go_loopg [5] (m.st.length + 1) (fun gk v5 wr => ∃ (m' : Mk) (go_ : Bool), v5 = .bool (!go_) ∧ MkTo B bm (.slice A m.st.length cc) (.slice A2 m.out.length c2) W0 m' wr ∧ m'.st.length ≤ gk ∧ Hid (phi m' ≤ 200000) ∧ ((go_ = true ∧ Hid (letsP m'.st = true ∧ inL t m'.st.length m' = R)) ∨ (go_ = false ∧ Hid (m' = R))))
          case atStart =>
            obtain ⟨m', g1, g2, g3, g4⟩ := HSt.out
            exact ⟨m', lt, rfl, g1, g2, g3, g4⟩
          case round =>
            clear HSt
            obtain ⟨m', go_, rfl, ⟨sv1, ov1, hM, hk, hn⟩, hlen, hphi, hcase⟩ := hrel
            obtain ⟨wx, hwx⟩ : ∃ wx, wx = wr := ⟨_, rfl⟩
            rw [← hwx] at hM hk ⊢
            clear hwx
            have HM := Lib.hid hM
            have HKw := Lib.hid hk
            have HN := Lib.hid hn
            rcases hcase with ⟨rfl, hin⟩ | ⟨rfl, hin⟩
            · have hgo := inL_go t hin.out.1
              have hne := letsP_ne hin.out.1
              have hcl := close_len t hne
              have HNe := Lib.hid hne
              obtain ⟨c, hc⟩ : ∃ c, topP m'.st = c := ⟨_, rfl⟩
              rw [hc] at hgo
              have HTop := Lib.hid (top_any wx B bm sv1 ov1 m' hM)
              rw [hc] at HTop
              have hf1 := fld1 c.col c.op
              obtain ⟨ql, hql⟩ : ∃ ql, (c.op.toList == sLet.toList) = ql := ⟨_, rfl⟩
              have HGo : Hid ((ql = true → m'.close t = R) ∧ (ql = false → letsP (m'.close t).st = true ∧ inL t (m'.close t).st.length (m'.close t) = R)) := by
                have hr := hin.out.2
                rw [hgo.1] at hr
                refine ⟨fun e => ?_, fun e => ?_⟩
                · have : c.op = sLet := str_inj (by rw [e] at hql; exact eq_of_beq hql)
                  rw [if_pos this] at hr; exact hr
                · have : ¬ c.op = sLet := fun h => by rw [str_yes h] at hql; rw [e] at hql; cases hql
                  rw [if_neg this] at hr; exact ⟨hgo.2 this, hr⟩
              rw [sLet_l] at hql
              have hBx : Hid (B ≤ wx.heap.size) := by have h1 := hk.size; have h2 := HBB.out; show _ ≤ _; omega
              have hbx := HB3.out.keeps hk (fun e => hno.out b3 e rfl)
              have HBx := Lib.hid hbx
              clear hgo hne hc hM hk hn hbx hin
              go_wp2_with fail
              with_reducible refine HTop.out.mono ?_
              rintro e w5 ⟨rfl, hk5⟩
              have hb := HBx.out.keeps hk5 (fun h => h)
              have x0 := hb.cell (i := 0) rfl
              have x1 := hb.cell (i := 1) rfl
              have x2 := hb.cell (i := 2) rfl
              have x3 := hb.cell (i := 3) rfl
              have x4 := hb.cell (i := 4) rfl
              have HPut := Lib.hid (lput_any w5 B bm sv1 ov1 m' (HM.out.same hk5) (by have := hk5.size; have := hBx.out; omega) 7 t (by decide) HT.out (by have h1 : m'.out.length + m'.st.length ≤ 200000 := hphi.out; omega))
              have HK5 := Lib.hid hk5
              clear hk5 hb HTop
              go_wp2_with fail
              clear x0 x1 x2 x3 x4
              with_reducible refine HPut.out.mono ?_
              rintro e w6 ⟨rfl, hT2⟩
              obtain ⟨sv2, ov2, hM2, hk2, hn2⟩ := hT2
              have HPop := Lib.hid (pop_any w6 B bm sv2 ov2 (m'.put 7 t) hM2 HNe.out)
              have HK6 := Lib.hid hk2
              have HN6 := Lib.hid hn2
              clear hM2 hk2 hn2 HPut
              go_wp2_with fail
              with_reducible refine HPop.out.mono ?_
              rintro e w7 ⟨rfl, hT3⟩
              have HT3 : Hid (MkTo B bm (.slice A m.st.length cc) (.slice A2 m.out.length c2) W0 (m'.close t) w7) := MkTo.trans HKw.out HN.out (MkTo.trans (HK5.out.mono (fun _ _ h => h.elim)) (fun i hi => .inl hi) (MkTo.trans HK6.out HN6.out hT3))
              clear hT3
              go_wp2_with fail
              go_roundg (gk - 1)
              case measure => omega
              case rel =>
                refine ⟨m'.close t, !ql, by rw [Bool.not_not], HT3.out, by omega, by show phi _ ≤ _; rw [phi_close t HNe.out]; exact hphi.out, ?_⟩
                cases hq : ql with
                | true => exact .inr ⟨rfl, HGo.out.1 hq⟩
                | false => exact .inl ⟨rfl, HGo.out.2 hq⟩
            · have hres := hin.out
              subst hres
              have HF : Hid (MkTo B bm (.slice A m.st.length cc) (.slice A2 m.out.length c2) W m' wx) := HFin.out _ (MkTo.trans HKw.out HN.out (MkTo.same HM.out (Keeps.refl _ _)))
              clear hM hk hn hin
              go_wp2_with fail
              go_end0
              exact ⟨rfl, HF.out⟩
      · have hr1 := HR1.out
        rw [if_pos rfl] at hr1
        have HR2 := Lib.hid hr1
        clear hr1 HR1
        go_wp2_with fail
        with_reducible refine HCF.out.mono ?_
        rintro e w2 ⟨rfl, hk2⟩
        have hk2' := HK1.out.trans hk2 (fun _ _ h => h)
        have HK2 := Lib.hid hk2'
        have hb := HTok.out w2 hk2'
        clear x0 x1 x2 x3 x4
        have x0 := hb.cell (i := 0) rfl
        have x1 := hb.cell (i := 1) rfl
        have x2 := hb.cell (i := 2) rfl
        have x3 := hb.cell (i := 3) rfl
        have x4 := hb.cell (i := 4) rfl
        have HSh := Lib.hid (HShut.out w2 hk2')
        clear hb hk2 hk2' HCF hc0
        obtain ⟨lt, hlt⟩ : ∃ lt, m.st.any (fun c => decide (c.col = 0)) = lt := ⟨_, rfl⟩
        rw [hlt] at HR2 ⊢
        clear hlt
        cases lt
        · have hr1 := HR2.out
          rw [if_neg (by decide)] at hr1
          have HF : Hid (MkTo B bm (.slice A m.st.length cc) (.slice A2 m.out.length c2) W R w2) := HFin.out _ (by rw [← hr1]; exact MkTo.same h0.out HK2.out)
          clear hr1 HR2 HSh
          go_wp2_with fail
          go_end0
          exact ⟨rfl, HF.out⟩
        · have hr1 := HR2.out
          rw [if_pos rfl] at hr1
          have HR3 := Lib.hid hr1
          clear hr1 HR2
          go_wp2_with fail
          with_reducible refine HSh.out.mono ?_
          rintro e w3 ⟨rfl, hT⟩
          have HF : Hid (MkTo B bm (.slice A m.st.length cc) (.slice A2 m.out.length c2) W R w3) := by
            have h1 := HR3.out
            rw [h1] at hT
            exact HFin.out _ (MkTo.trans (HK2.out.mono (fun _ _ h => h.elim)) (fun i hi => .inl hi) hT)
          clear hT
          go_wp2_with fail
          go_end0
          exact ⟨rfl, HF.out⟩
    · have hr1 := HR.out
      rw [if_pos rfl] at hr1
      dsimp only at hr1
      obtain ⟨m1, hm1⟩ : ∃ m1, shutP t m = m1 := ⟨_, rfl⟩
      rw [hm1] at hr1
      have HR1 := Lib.hid hr1
      have HSh := Lib.hid (HShut.out wc HKc.out)
      rw [hm1] at HSh
      clear hr1 hm1 HR HI3 HI4
      go_wp2_with fail
      with_reducible refine HSh.out.mono ?_
      rintro e w1 ⟨rfl, sv1, ov1, hM, hk, hn⟩
      have hc0 := hM.box.cell (i := 0) rfl
      have hlb := hM.box.lt
      obtain ⟨A, cc, A2, c2, rfl, rfl, _, _, _, _⟩ := hM.form
      have HM := Lib.hid hM
      have HT1 : Hid (∀ m2 w2, MkTo B bm (.slice A m1.st.length cc) (.slice A2 m1.out.length c2) w1 m2 w2 → MkTo B bm sv ov W0 m2 w2) := fun m2 w2 hT => MkTo.trans (HKc.out.mono (fun _ _ h => h.elim)) (fun i hi => .inl hi) (MkTo.trans hk hn hT)
      clear hM hk hn x0 x1 x2 x3 x4 HSh
      by_cases hl : 0 < m1.st.length
      · have hli : (0 : Int) < (m1.st.length : Int) := by omega
        have hr1 := HR1.out
        rw [if_pos hl] at hr1
        have hne : m1.st ≠ [] := fun e => by rw [e] at hl; cases hl
        have HPop := Lib.hid (pop_any w1 B bm _ _ m1 HM.out hne)
        have HR2 := Lib.hid hr1
        clear hr1 HR1 hl hne
        go_wp2_with fail
        with_reducible refine HPop.out.mono ?_
        rintro e w2 ⟨rfl, hT⟩
        have HF : Hid (MkTo B bm sv ov W R w2) := by
          have h1 := HR2.out
          rw [h1] at hT
          exact HFin.out _ (HT1.out _ _ hT)
        clear hT
        go_wp2_with fail
        go_end0
        exact ⟨rfl, HF.out⟩
      · have hli : ¬ (0 : Int) < (m1.st.length : Int) := by omega
        have hr1 := HR1.out
        rw [if_neg hl] at hr1
        have HF : Hid (MkTo B bm sv ov W R w1) := HFin.out _ (by rw [← hr1]; exact HT1.out _ _ (MkTo.same HM.out (Keeps.refl _ _)))
        clear hr1 HR1 hl
        go_wp2_with fail
        go_end0
        exact ⟨rfl, HF.out⟩
end Go.Proofs.YtnpgdeioaehahaaDoor
