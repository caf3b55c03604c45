/- The parser: LayB, BackC, LayE. -/
import Derived.Test.YtcjoapmodaioiaaGreatDoorMLayP
import Derived.Test.YtcjoapmodaioiaaGreatDoorMLayA
import Derived.RangeFuncBound
import Derived.RangeFuncCalls
import Derived.RangeFuncLeaves
import Derived.Shelf.Abstract
import Derived.Shelf.RegionOpen
import Derived.OwnWalkIn
import Derived.TacticsInMore
import Derived.LoopNIn
import Derived.LoopIn
section
namespace Go.Proofs.YtcjoapmodaioiaaGreatDoor
open Go.RowKit Go.Shelf

theorem letsP_ne {s : List Ctx} (h : letsP s = true) : s ≠ [] := fun e => by rw [e] at h; cases h
theorem inL_go (t : Tok) {m : Mk} (h : letsP m.st = true) : inL t m.st.length m = (if (topP m.st).op = sLet then m.close t else inL t (m.close t).st.length (m.close t)) ∧ ((topP m.st).op ≠ sLet → letsP (m.close t).st = true) := by
  have hne := letsP_ne h
  have h1 := close_len t hne
  obtain ⟨s, c, hs⟩ := snoc_of_ne hne
  have hst : (m.close t).st = s := by show m.st.dropLast = s; rw [hs, List.dropLast_concat]
  refine ⟨by rw [← h1, inL], fun ho => ?_⟩
  rw [hs] at h
  rw [hst]
  exact (letsP_snoc s c h).2 (fun e => ho (by rw [hs, topP_app]; exact e))
theorem phi_shutL (t : Tok) : ∀ (n : Nat) (m : Mk), phi (shutL t n m) = phi m
  | 0, _ => rfl
  | n + 1, m => by
    rw [shutL]
    split
    · rename_i h
      rw [phi_shutL t n, phi_close t (top_ne (c := 0) (by omega) h)]
    · rfl
set_option maxRecDepth 100000 in
set_option maxHeartbeats 16000000 in
theorem before_any (W : World) (B bm : Nat) (sv ov : Value) (m : Mk) (h : MkAt W B bm sv ov m) (hB : B ≤ W.heap.size) (t : Tok) (ht : TokOk t) (hn : phi m ≤ 200000) :
    Calls Tryz.prog 43 #[.pointer (some ⟨bm, 0, none⟩), .agg #[.int .i64 t.kind, .string t.text, .int .i64 t.n, .int .i64 t.line, .int .i64 t.col]] W (fun e w' => e = .returned (.tuple #[]) ∧ MkTo B bm sv ov W (beforeP t m) w') := by
  obtain ⟨b3, hb3⟩ : ∃ b3, W.heap.size = b3 := ⟨_, rfl⟩
  obtain ⟨W0, hW0⟩ : ∃ W0, W.alloc (.cells #[.int .i64 t.kind, .string t.text, .int .i64 t.n, .int .i64 t.line, .int .i64 t.col] 59) = W0 := ⟨_, rfl⟩
  have hk0 : Keeps (fun _ => False) W W0 := by rw [← hW0]; exact (Keeps.refl _ _).alloc _
  have hB3 : Blk W0 b3 59 [.int .i64 t.kind, .string t.text, .int .i64 t.n, .int .i64 t.line, .int .i64 t.col] := by rw [← hW0, ← hb3]; exact Blk.new W _ [_, _, _, _, _]
  have hs0 := hk0.size
  have h0 := Lib.hid (h.same hk0)
  have hno : Hid (∀ i, Own3 bm sv ov i → i ≠ b3) := fun i hi e => by have := h.lt i hi; omega
  have HK0 := Lib.hid hk0
  have HB3 := Lib.hid hB3
  have HW0 := Lib.hid hW0
  have HBn := Lib.hid hb3
  have HT := Lib.hid ht
  have HBB : Hid (B ≤ W0.heap.size) := by show _ ≤ _; omega
  have hph := Lib.hid hn
  obtain ⟨q1, hq1⟩ : ∃ q, isP t 5 sClP = q := ⟨_, rfl⟩
  obtain ⟨q2, hq2⟩ : ∃ q, isP t 5 sClB = q := ⟨_, rfl⟩
  obtain ⟨q3, hq3⟩ : ∃ q, isP t 5 sCom = q := ⟨_, rfl⟩
  obtain ⟨q4, hq4⟩ : ∃ q, isP t 4 sIn = q := ⟨_, rfl⟩
  have HI1 : Hid (∀ X, Calls Tryz.prog 39 #[.agg #[.int .i64 t.kind, .string t.text, .int .i64 t.n, .int .i64 t.line, .int .i64 t.col], .int .i64 5, .string ⟨#[41]⟩] X (fun e w' => e = .returned (.bool q1) ∧ Keeps (fun _ => False) X w')) := fun X => by rw [← hq1]; exact is_any t 5 sClP X
  have HI2 : Hid (∀ X, Calls Tryz.prog 39 #[.agg #[.int .i64 t.kind, .string t.text, .int .i64 t.n, .int .i64 t.line, .int .i64 t.col], .int .i64 5, .string ⟨#[125]⟩] X (fun e w' => e = .returned (.bool q2) ∧ Keeps (fun _ => False) X w')) := fun X => by rw [← hq2]; exact is_any t 5 sClB X
  have HI3 : Hid (∀ X, Calls Tryz.prog 39 #[.agg #[.int .i64 t.kind, .string t.text, .int .i64 t.n, .int .i64 t.line, .int .i64 t.col], .int .i64 5, .string ⟨#[44]⟩] X (fun e w' => e = .returned (.bool q3) ∧ Keeps (fun _ => False) X w')) := fun X => by rw [← hq3]; exact is_any t 5 sCom X
  have HI4 : Hid (∀ X, Calls Tryz.prog 39 #[.agg #[.int .i64 t.kind, .string t.text, .int .i64 t.n, .int .i64 t.line, .int .i64 t.col], .int .i64 4, .string ⟨#[105, 110]⟩] X (fun e w' => e = .returned (.bool q4) ∧ Keeps (fun _ => False) X w')) := fun X => by rw [← hq4]; exact is_any t 4 sIn X
  obtain ⟨R, hR⟩ : ∃ R, beforeP t m = R := ⟨_, rfl⟩
  rw [hR]
  unfold beforeP at hR
  rw [hq1, hq2, hq3, hq4] at hR
  have HR := Lib.hid hR
  have HFin : Hid (∀ w', MkTo B bm sv ov W0 R w' → MkTo B bm sv ov W R w') := fun w' hT => MkTo.trans (HK0.out.mono (fun _ _ h => h.elim)) (fun i hi => .inl hi) hT
  have HShut : Hid (∀ X, Keeps (fun _ => False) W0 X → Calls Tryz.prog 83 #[.pointer (some ⟨bm, 0, none⟩), .agg #[.int .i64 t.kind, .string t.text, .int .i64 t.n, .int .i64 t.line, .int .i64 t.col]] X (fun e w' => e = .returned (.tuple #[]) ∧ MkTo B bm sv ov X (shutP t m) w')) := fun X hk => shut_any X B bm sv ov m (h0.out.same hk) (by have := hk.size; have := HBB.out; omega) t HT.out hph.out
  have HTok : Hid (∀ X, Keeps (fun _ => False) W0 X → Blk X b3 59 [.int .i64 t.kind, .string t.text, .int .i64 t.n, .int .i64 t.line, .int .i64 t.col]) := fun X hk => HB3.out.keeps hk (fun h => h)
  clear h hk0 hB3 hW0 hb3 ht hs0 hn hB hR hq1 hq2 hq3 hq4
  go_enter Tryz.func43, Tryz.ntmps43
  go_upto_region 1 with (fail)
  rw [HW0.out, HBn.out]
  have hb := HTok.out W0 (Keeps.refl _ _)
  have x0 := hb.cell (i := 0) rfl
  have x1 := hb.cell (i := 1) rfl
  have x2 := hb.cell (i := 2) rfl
  have x3 := hb.cell (i := 3) rfl
  have x4 := hb.cell (i := 4) rfl
  clear hb
  go_cut [6] from 7 to 12 (fun v6 wd => v6 = .bool (q1 || q2) ∧ Keeps (fun _ => False) W0 wd)
  case first =>
    go_wp2_with fail
    with_reducible refine (HI1.out _).mono ?_
    rintro e w1 ⟨rfl, hk1⟩
    have hb := HTok.out w1 hk1
    have x0 := hb.cell (i := 0) rfl
    have x1 := hb.cell (i := 1) rfl
    have x2 := hb.cell (i := 2) rfl
    have x3 := hb.cell (i := 3) rfl
    have x4 := hb.cell (i := 4) rfl
    have HK1 := Lib.hid hk1
    clear hb hk1
    cases q1
    · go_wp2_with fail
      with_reducible refine (HI2.out _).mono ?_
      rintro e w2 ⟨rfl, hk2⟩
      have HK2 := Lib.hid (HK1.out.trans hk2 (fun _ _ h => h))
      clear hk2
      go_wp2_with fail
      go_meet
      exact ⟨rfl, HK2.out⟩
    · go_wp2_with fail
      go_meet
      exact ⟨rfl, HK1.out⟩
  case rest =>
    obtain ⟨rfl, hkc⟩ := hcut
    clear x0 x1 x2 x3 x4
    have HKc := Lib.hid hkc
    have hb := HTok.out wc hkc
    have x0 := hb.cell (i := 0) rfl
    have x1 := hb.cell (i := 1) rfl
    have x2 := hb.cell (i := 2) rfl
    have x3 := hb.cell (i := 3) rfl
    have x4 := hb.cell (i := 4) rfl
    clear hb hkc
    obtain ⟨qa, hqa⟩ : ∃ qa, (q1 || q2) = qa := ⟨_, rfl⟩
    rw [hqa] at HR ⊢
    clear hqa HI1 HI2
    cases qa
    · have hr1 := HR.out
      rw [if_neg (by decide)] at hr1
      have HR1 := Lib.hid hr1
      clear hr1 HR
      go_wp2_with fail
      with_reducible refine (HI3.out _).mono ?_
      rintro e w1 ⟨rfl, hk1⟩
      have hk1' := HKc.out.trans hk1 (fun _ _ h => h)
      have HK1 := Lib.hid hk1'
      have hb := HTok.out w1 hk1'
      have x0 := hb.cell (i := 0) rfl
      have x1 := hb.cell (i := 1) rfl
      have x2 := hb.cell (i := 2) rfl
      have x3 := hb.cell (i := 3) rfl
      have x4 := hb.cell (i := 4) rfl
      have hM1 := h0.out.same hk1'
      have HM1 := Lib.hid hM1
      have hc0 := hM1.box.cell (i := 0) rfl
      have hlb := hM1.box.lt
      have hsl := hM1.sl
      obtain ⟨A, cc, A2, c2, rfl, rfl, _, _, _, _⟩ := hM1.form
      have HCF : Hid (Calls Tryz.prog 84 #[.slice A m.st.length cc, .func (.func 85) #[] #[]] w1 (fun e w' => e = .returned (.bool (m.st.any (fun c => decide (c.col = 0)))) ∧ Keeps (fun _ => False) w1 w')) := by
        refine (ctxContainsFunc m.st _ _ w1 hsl 85 #[] (fun c => decide (c.col = 0)) (enters_of Tryz.func85 (by kernel_rfl) rfl) (fun i h cs w2 hb2 hr => bclo1 _ _ w2 cs hr)).mono ?_
        rintro e w' ⟨he, hb⟩
        exact ⟨he, Keeps.of_below (X := fun _ => False) hb⟩
      clear hb hk1 hk1' HI3 hM1 hsl
      cases q3
      · have hr1 := HR1.out
        rw [if_neg (by decide)] at hr1
        have HR2 := Lib.hid hr1
        clear hr1 HR1 HCF hc0
        go_wp2_with fail
        with_reducible refine (HI4.out _).mono ?_
        rintro e w2 ⟨rfl, hk2⟩
        have hk2' := HK1.out.trans hk2 (fun _ _ h => h)
        have HK2 := Lib.hid hk2'
        have hM2 := HM1.out.same hk2
        have HM2 := Lib.hid hM2
        have HIn := Lib.hid (linner_any w2 B bm _ _ m hM2)
        clear hk2 hk2' HI4 hM2 x0 x1 x2 x3 x4
        cases q4
        · have hr1 := HR2.out
          rw [if_neg (by decide)] at hr1
          have HF : Hid (MkTo B bm (.slice A m.st.length cc) (.slice A2 m.out.length c2) W R w2) := HFin.out _ (by rw [← hr1]; exact MkTo.same h0.out HK2.out)
          clear hr1 HR2 HIn
          go_wp2_with fail
          go_end0
          exact ⟨rfl, HF.out⟩
        · have hr1 := HR2.out
          rw [if_pos rfl] at hr1
          have HR3 := Lib.hid hr1
          clear hr1 HR2
          go_wp2_with fail
          with_reducible refine HIn.out.mono ?_
          rintro e w3 ⟨hk3, v, rfl, hsv⟩
          obtain ⟨Av, cv, rfl, _⟩ := hsv.form
          have HCF2 : Hid (Calls Tryz.prog 84 #[.slice Av (innerP m.st).length cv, .func (.func 87) #[] #[]] w3 (fun e w' => e = .returned (.bool (letsP m.st)) ∧ Keeps (fun _ => False) w3 w')) := by
            refine (ctxContainsFunc (innerP m.st) _ _ w3 hsv 87 #[] (fun c => decide (c.op = sLet)) (enters_of Tryz.func87 (by kernel_rfl) rfl) (fun i h cs w2 hb2 hr => bclo2 _ _ w2 cs hr)).mono ?_
            rintro e w' ⟨he, hb⟩
            exact ⟨he, Keeps.of_below (X := fun _ => False) hb⟩
          have HK3 := Lib.hid (HK2.out.trans hk3 (fun _ _ h => h))
          clear hk3 hsv HIn
          go_wp2_with fail
          with_reducible refine HCF2.out.mono ?_
          rintro e w4 ⟨rfl, hk4⟩
          have HK4 := Lib.hid (HK3.out.trans hk4 (fun _ _ h => h))
          clear hk4 HCF2
          obtain ⟨lt, hlt⟩ : ∃ lt, letsP m.st = lt := ⟨_, rfl⟩
          rw [hlt] at HR3 ⊢
          have HLt := Lib.hid hlt
          clear hlt
          have HSt : Hid (∃ m', MkTo B bm (.slice A m.st.length cc) (.slice A2 m.out.length c2) W0 m' w4 ∧ m'.st.length ≤ m.st.length + 1 ∧ Hid (phi m' ≤ 200000) ∧ ((lt = true ∧ Hid (letsP m'.st = true ∧ inL t m'.st.length m' = R)) ∨ (lt = false ∧ Hid (m' = R)))) := by
            refine ⟨m, MkTo.same h0.out HK4.out, by omega, hph.out, ?_⟩
            have hr3 := HR3.out
            cases lt
            · exact .inr ⟨rfl, by rw [if_neg (by decide)] at hr3; exact hr3⟩
            · exact .inl ⟨rfl, ⟨HLt.out, by rw [if_pos rfl] at hr3; exact hr3⟩⟩
          clear hlb
          go_wp2_with fail
          go_loopg [5] (m.st.length + 1) (fun gk v5 wr => ∃ (m' : Mk) (go_ : Bool), v5 = .bool (!go_) ∧ MkTo B bm (.slice A m.st.length cc) (.slice A2 m.out.length c2) W0 m' wr ∧ m'.st.length ≤ gk ∧ Hid (phi m' ≤ 200000) ∧ ((go_ = true ∧ Hid (letsP m'.st = true ∧ inL t m'.st.length m' = R)) ∨ (go_ = false ∧ Hid (m' = R))))
          case atStart =>
            obtain ⟨m', g1, g2, g3, g4⟩ := HSt.out
            exact ⟨m', lt, rfl, g1, g2, g3, g4⟩
          case round =>
            clear HSt
            obtain ⟨m', go_, rfl, ⟨sv1, ov1, hM, hk, hn⟩, hlen, hphi, hcase⟩ := hrel
            obtain ⟨wx, hwx⟩ : ∃ wx, wx = wr := ⟨_, rfl⟩
            rw [← hwx] at hM hk ⊢
            clear hwx
            have HM := Lib.hid hM
            have HKw := Lib.hid hk
            have HN := Lib.hid hn
            rcases hcase with ⟨rfl, hin⟩ | ⟨rfl, hin⟩
            · have hgo := inL_go t hin.out.1
              have hne := letsP_ne hin.out.1
              have hcl := close_len t hne
              have HNe := Lib.hid hne
              obtain ⟨c, hc⟩ : ∃ c, topP m'.st = c := ⟨_, rfl⟩
              rw [hc] at hgo
              have HTop := Lib.hid (top_any wx B bm sv1 ov1 m' hM)
              rw [hc] at HTop
              have hf1 := fld1 c.col c.op
              obtain ⟨ql, hql⟩ : ∃ ql, (c.op.toList == sLet.toList) = ql := ⟨_, rfl⟩
              have HGo : Hid ((ql = true → m'.close t = R) ∧ (ql = false → letsP (m'.close t).st = true ∧ inL t (m'.close t).st.length (m'.close t) = R)) := by
                have hr := hin.out.2
                rw [hgo.1] at hr
                refine ⟨fun e => ?_, fun e => ?_⟩
                · have : c.op = sLet := str_inj (by rw [e] at hql; exact eq_of_beq hql)
                  rw [if_pos this] at hr; exact hr
                · have : ¬ c.op = sLet := fun h => by rw [str_yes h] at hql; rw [e] at hql; cases hql
                  rw [if_neg this] at hr; exact ⟨hgo.2 this, hr⟩
              rw [sLet_l] at hql
              have hBx : Hid (B ≤ wx.heap.size) := by have h1 := hk.size; have h2 := HBB.out; show _ ≤ _; omega
              have hbx := HB3.out.keeps hk (fun e => hno.out b3 e rfl)
              have HBx := Lib.hid hbx
              clear hgo hne hc hM hk hn hbx hin
              go_wp2_with fail
              with_reducible refine HTop.out.mono ?_
              rintro e w5 ⟨rfl, hk5⟩
              have hb := HBx.out.keeps hk5 (fun h => h)
              have x0 := hb.cell (i := 0) rfl
              have x1 := hb.cell (i := 1) rfl
              have x2 := hb.cell (i := 2) rfl
              have x3 := hb.cell (i := 3) rfl
              have x4 := hb.cell (i := 4) rfl
              have HPut := Lib.hid (lput_any w5 B bm sv1 ov1 m' (HM.out.same hk5) (by have := hk5.size; have := hBx.out; omega) 7 t (by decide) HT.out (by have h1 : m'.out.length + m'.st.length ≤ 200000 := hphi.out; omega))
              have HK5 := Lib.hid hk5
              clear hk5 hb HTop
              go_wp2_with fail
              clear x0 x1 x2 x3 x4
              with_reducible refine HPut.out.mono ?_
              rintro e w6 ⟨rfl, hT2⟩
              obtain ⟨sv2, ov2, hM2, hk2, hn2⟩ := hT2
              have HPop := Lib.hid (pop_any w6 B bm sv2 ov2 (m'.put 7 t) hM2 HNe.out)
              have HK6 := Lib.hid hk2
              have HN6 := Lib.hid hn2
              clear hM2 hk2 hn2 HPut
              go_wp2_with fail
              with_reducible refine HPop.out.mono ?_
              rintro e w7 ⟨rfl, hT3⟩
              have HT3 : Hid (MkTo B bm (.slice A m.st.length cc) (.slice A2 m.out.length c2) W0 (m'.close t) w7) := MkTo.trans HKw.out HN.out (MkTo.trans (HK5.out.mono (fun _ _ h => h.elim)) (fun i hi => .inl hi) (MkTo.trans HK6.out HN6.out hT3))
              clear hT3
              go_wp2_with fail
              go_roundg (gk - 1)
              case measure => omega
              case rel =>
                refine ⟨m'.close t, !ql, by rw [Bool.not_not], HT3.out, by omega, by show phi _ ≤ _; rw [phi_close t HNe.out]; exact hphi.out, ?_⟩
                cases hq : ql with
                | true => exact .inr ⟨rfl, HGo.out.1 hq⟩
                | false => exact .inl ⟨rfl, HGo.out.2 hq⟩
            · have hres := hin.out
              subst hres
              have HF : Hid (MkTo B bm (.slice A m.st.length cc) (.slice A2 m.out.length c2) W m' wx) := HFin.out _ (MkTo.trans HKw.out HN.out (MkTo.same HM.out (Keeps.refl _ _)))
              clear hM hk hn hin
              go_wp2_with fail
              go_end0
              exact ⟨rfl, HF.out⟩
      · have hr1 := HR1.out
        rw [if_pos rfl] at hr1
        have HR2 := Lib.hid hr1
        clear hr1 HR1
        go_wp2_with fail
        with_reducible refine HCF.out.mono ?_
        rintro e w2 ⟨rfl, hk2⟩
        have hk2' := HK1.out.trans hk2 (fun _ _ h => h)
        have HK2 := Lib.hid hk2'
        have hb := HTok.out w2 hk2'
        clear x0 x1 x2 x3 x4
        have x0 := hb.cell (i := 0) rfl
        have x1 := hb.cell (i := 1) rfl
        have x2 := hb.cell (i := 2) rfl
        have x3 := hb.cell (i := 3) rfl
        have x4 := hb.cell (i := 4) rfl
        have HSh := Lib.hid (HShut.out w2 hk2')
        clear hb hk2 hk2' HCF hc0
        obtain ⟨lt, hlt⟩ : ∃ lt, m.st.any (fun c => decide (c.col = 0)) = lt := ⟨_, rfl⟩
        rw [hlt] at HR2 ⊢
        clear hlt
        cases lt
        · have hr1 := HR2.out
          rw [if_neg (by decide)] at hr1
          have HF : Hid (MkTo B bm (.slice A m.st.length cc) (.slice A2 m.out.length c2) W R w2) := HFin.out _ (by rw [← hr1]; exact MkTo.same h0.out HK2.out)
          clear hr1 HR2 HSh
          go_wp2_with fail
          go_end0
          exact ⟨rfl, HF.out⟩
        · have hr1 := HR2.out
          rw [if_pos rfl] at hr1
          have HR3 := Lib.hid hr1
          clear hr1 HR2
          go_wp2_with fail
          with_reducible refine HSh.out.mono ?_
          rintro e w3 ⟨rfl, hT⟩
          have HF : Hid (MkTo B bm (.slice A m.st.length cc) (.slice A2 m.out.length c2) W R w3) := by
            have h1 := HR3.out
            rw [h1] at hT
            exact HFin.out _ (MkTo.trans (HK2.out.mono (fun _ _ h => h.elim)) (fun i hi => .inl hi) hT)
          clear hT
          go_wp2_with fail
          go_end0
          exact ⟨rfl, HF.out⟩
    · have hr1 := HR.out
      rw [if_pos rfl] at hr1
      dsimp only at hr1
      obtain ⟨m1, hm1⟩ : ∃ m1, shutP t m = m1 := ⟨_, rfl⟩
      rw [hm1] at hr1
      have HR1 := Lib.hid hr1
      have HSh := Lib.hid (HShut.out wc HKc.out)
      rw [hm1] at HSh
      clear hr1 hm1 HR HI3 HI4
      go_wp2_with fail
      with_reducible refine HSh.out.mono ?_
      rintro e w1 ⟨rfl, sv1, ov1, hM, hk, hn⟩
      have hc0 := hM.box.cell (i := 0) rfl
      have hlb := hM.box.lt
      obtain ⟨A, cc, A2, c2, rfl, rfl, _, _, _, _⟩ := hM.form
      have HM := Lib.hid hM
      have HT1 : Hid (∀ m2 w2, MkTo B bm (.slice A m1.st.length cc) (.slice A2 m1.out.length c2) w1 m2 w2 → MkTo B bm sv ov W0 m2 w2) := fun m2 w2 hT => MkTo.trans (HKc.out.mono (fun _ _ h => h.elim)) (fun i hi => .inl hi) (MkTo.trans hk hn hT)
      clear hM hk hn x0 x1 x2 x3 x4 HSh
      by_cases hl : 0 < m1.st.length
      · have hli : (0 : Int) < (m1.st.length : Int) := by omega
        have hr1 := HR1.out
        rw [if_pos hl] at hr1
        have hne : m1.st ≠ [] := fun e => by rw [e] at hl; cases hl
        have HPop := Lib.hid (pop_any w1 B bm _ _ m1 HM.out hne)
        have HR2 := Lib.hid hr1
        clear hr1 HR1 hl hne
        go_wp2_with fail
        with_reducible refine HPop.out.mono ?_
        rintro e w2 ⟨rfl, hT⟩
        have HF : Hid (MkTo B bm sv ov W R w2) := by
          have h1 := HR2.out
          rw [h1] at hT
          exact HFin.out _ (HT1.out _ _ hT)
        clear hT
        go_wp2_with fail
        go_end0
        exact ⟨rfl, HF.out⟩
      · have hli : ¬ (0 : Int) < (m1.st.length : Int) := by omega
        have hr1 := HR1.out
        rw [if_neg hl] at hr1
        have HF : Hid (MkTo B bm sv ov W R w1) := HFin.out _ (by rw [← hr1]; exact HT1.out _ _ (MkTo.same HM.out (Keeps.refl _ _)))
        clear hr1 HR1 hl
        go_wp2_with fail
        go_end0
        exact ⟨rfl, HF.out⟩
end Go.Proofs.YtcjoapmodaioiaaGreatDoor
end

section
namespace Go.Proofs.YtcjoapmodaioiaaGreatDoor
open Go.RowKit Go.Shelf
attribute [local go_sem] Oper.semAt_some

def bkl (len : Nat) : Nat → List { i : Nat // i < len }
  | 0 => []
  | j + 1 => if h : j < len then bkl len j ++ [⟨len - 1 - j, by omega⟩] else bkl len j
theorem bkl_succ {len j : Nat} (h : j < len) : bkl len (j + 1) = bkl len j ++ [⟨len - 1 - j, by omega⟩] := by rw [bkl, dif_pos h]
theorem bkl_len {len : Nat} : ∀ {j : Nat}, j ≤ len → (bkl len j).length = j
  | 0, _ => rfl
  | j + 1, h => by rw [bkl_succ (by omega), List.length_append, bkl_len (by omega)]; rfl
set_option maxHeartbeats 400000 in
theorem backward_any (A : Option Addr) (n c : Nat) (W : World) : Calls Tryz.prog 82 #[.slice A n c] W fun e w' =>
    e = .returned (.func (.func 117) #[] #[.pointer (some ⟨W.heap.size, 0, none⟩)]) ∧ w' = W.alloc (.cells #[.slice A n c] 88) := by
  go_enter Tryz.func82, Tryz.ntmps82
  go_wp2
  go_ret
  exact ⟨rfl, rfl⟩
structure V2 where
  e0 : Value
  e1 : Value
def bkArgs (el : Nat → V2) {len : Nat} (x : { i : Nat // i < len }) : Array Value := #[.int .i64 (x.1 : Int), .agg #[(el x.1).e0, (el x.1).e1]]
def BackPost (len : Nat) (J Jx : List { i : Nat // i < len } → World → Prop) (e : Ending) (W' : World) : Prop := (∃ v, e = .returned v) ∧
      ((∃ ys, ys = bkl len len ∧ J ys W') ∨ (∃ pre, (∃ k, k ≤ len ∧ pre = bkl len k) ∧ Jx pre W'))
set_option maxRecDepth 100000 in
set_option maxHeartbeats 4000000 in
theorem back_in (n l Bs g off len cap : Nat) (A : Option Addr) (hA : 0 < len → A = some ⟨g, off, none⟩) (hlm : len ≤ 9223372036854775807) (el : Nat → V2) (Kp : World → World → Prop) (hKr : ∀ W, Kp W W) (hKt : ∀ {A B C : World}, Kp A B → Kp B C → Kp A C) (J Jx : List { i : Nat // i < len } → World → Prop)
    (hY : ∀ pre (x : { i : Nat // i < len }) W, J pre W → pre.length < len → YieldAt Fence.wide (n - 1) Tryz.prog l (bkArgs el x) W fun e W' =>
      (e = .returned (.bool true) ∧ J (pre ++ [x]) W' ∧ Kp W W') ∨ (e = .returned (.bool false) ∧ Jx (pre ++ [x]) W'))
    (W : World) (hc : ∀ W', Kp W W' → W'.cell? ⟨Bs, 0, none⟩ = some (.slice A len cap) ∧ ∀ k, k < len → W'.cell? ⟨g, off + k * 2, none⟩ = some (el k).e0 ∧ W'.cell? ⟨g, off + k * 2 + 1, none⟩ = some (el k).e1) (h0 : J [] W) :
    CallsIn Fence.wide n Tryz.prog 117 #[.func (.yield l) #[] #[], .pointer (some ⟨Bs, 0, none⟩)] W (BackPost len J Jx) := by
  have HC := Lib.hid hc
  have HA := Lib.hid hA
  clear hA
  have b0 := (hc W (hKr W)).1
  have hl0 : (0 : Int) ≤ (len : Int) := by omega
  have HY := Lib.hid hY
  have HKT : Hid (∀ A B C : World, Kp A B → Kp B C → Kp A C) := fun _ _ _ => hKt
  have HKR := Lib.hid hKr
  clear hc hY hKt hKr
  refine callsIn_of_wp Tryz.func117 rfl trivial ?_ rfl
  simp only [Tryz.ntmps117, List.size_toArray, List.length_cons, List.length_nil, Nat.reduceAdd, Nat.reduceSub, Array.replicate_succ, Array.replicate_zero, List.push_toArray, List.append_toArray, List.nil_append, List.cons_append]
  gi_wp2
  gi_loopw [3] (fun s3 wr => ∃ (j : Nat) (m : Int), s3 = .int .i64 m ∧ j ≤ len ∧ Hid (m = (len : Int) - 1 - (j : Int)) ∧ J (bkl len j) wr ∧ Kp W wr)
    (fun s3 _ => (intOf s3 + 1).toNat)
  case atStart => exact ⟨0, (len : Int) - 1, rfl, Nat.zero_le _, by show _ = _; omega, h0, HKR.out W⟩
  case round =>
    obtain ⟨j, m, rfl, hj, hm, hJs, hk⟩ := hrel
    have hm' := hm.out
    by_cases hlt : j < len
    · obtain ⟨k, hkm⟩ : ∃ k : Nat, m = (k : Int) := ⟨len - 1 - j, by omega⟩
      subst hkm
      have hke : k = len - 1 - j := by omega
      have hkl : k < len := by omega
      obtain ⟨b1, hcs⟩ := HC.out _ hk
      have hAe := HA.out (by omega)
      rw [hAe] at b1
      clear hAe
      obtain ⟨c0, c1⟩ := hcs k hkl
      obtain ⟨fn, tmps, assign, body, hy, hR⟩ := HY.out _ ⟨k, hkl⟩ _ hJs (by rw [bkl_len hj]; exact hlt)
      have hk0 : (0 : Int) ≤ (k : Int) := by omega
      have hkz : (k : Int) < (len : Int) := by omega
      have HKE := Lib.hid hke
      have HR := Lib.hid hR
      unfold bkArgs at hy
      dsimp only at hy
      clear hm' hke hR hcs b0
      gi_wp2
      refine ⟨fun h => (by cases h), HR.out.mono ?_⟩
      rintro e W3 (⟨rfl, hJ3, hk3⟩ | ⟨rfl, hJx3⟩)
      · have HJ3 := Lib.hid hJ3
        have HK3 := Lib.hid hk3
        clear hJ3 hk3 c0 c1 b1 hy
        gi_wp2
        go_roundw
        case rel => exact ⟨j + 1, (k : Int) - 1, rfl, by omega, by show _ = _; have := HKE.out; omega, by
          have e : bkl len (j + 1) = bkl len j ++ [⟨k, hkl⟩] := by
            rw [bkl_succ hlt]
            congr 3
            exact HKE.out.symm
          rw [e]; exact HJ3.out, HKT.out _ _ _ hk HK3.out⟩
        case measure => simp [intOf]
      · gi_wp2
        refine bodyPost_ret (results_none rfl _ _ _) rfl ?_
        exact ⟨⟨_, rfl⟩, .inr ⟨_, ⟨j + 1, by omega, by
            rw [bkl_succ hlt]
            congr 3⟩, hJx3⟩⟩
    · have hje : j = len := by omega
      have hm2 : ¬ (0 : Int) ≤ m := by omega
      subst hje
      clear hm'
      gi_wp2
      go_end0
      exact ⟨⟨_, rfl⟩, .inl ⟨_, rfl, hJs⟩⟩

theorem range_box {P : Program} {n : Nat} {α : Type} {g : Operand} {q1 q2 : Tmp} {e1 e2 : α → Value} {assign body : Code} {Q : Exit → Act → World → Prop} {a : Act} {w : World}
    (h1 : 1 ≤ n) {gf : Nat} {lb : Array Value} (hg : a.eval g = .func (.func gf) #[] lb) (eg : ∀ args w, (callFunc gf args).run P w = .ok (.enter gf args) w)
    {Kp : World → World → Prop} {S Sp : List α → Prop} {N : Nat} (hseq : SeqStopsK Fence.wide (n - 1) P gf lb (fun x => #[e1 x, e2 x]) Kp S Sp N w)
    (hKt : ∀ {A B C : World}, Kp A B → Kp B C → Kp A C) (hKb : ∀ (W : World) (l : Nat) (o o' : Obj), w.heap.size ≤ l → W.heap[l]? = some o → o.isCells = false → o.isWalk = false → Kp W (W.putObj l o'))
    (I Ix : List α → World → Prop) (hI : OwnFrom w.heap.size I) (hIx : OwnFrom w.heap.size Ix) (h0 : I [] w) (slot : Nat) (t : TypeId) (cs : α → List Value)
    (hassign : ∀ (l : Nat) (pre : List α) (x : α) (W : World) (K : Act → World → Prop), w.heap.size ≤ W.heap.size → I pre W → (∀ Bx W', KeepsFrom w.heap.size W W' → Kp W W' → I pre W' → w.heap.size ≤ Bx → Blk W' Bx t (cs x) → K { tmps := ((a.tmps.setIfInBounds q1 (e1 x)).setIfInBounds q2 (e2 x)).setIfInBounds slot (.pointer (some ⟨Bx, 0, none⟩)), defers := [] } W') →
      assign.wpIn (Fence.wide.inRound l) (n - 1 - 1) P (Exit.then K (fun _ _ _ => False)) { tmps := (a.tmps.setIfInBounds q1 (e1 x)).setIfInBounds q2 (e2 x), defers := [] } W)
    (hbody : ∀ (l : Nat) (pre : List α) (x : α) (Bx : Nat) (W : World), I pre W → w.heap.size ≤ Bx → Blk W Bx t (cs x) → body.wpIn (Fence.wide.inRound l) (n - 1 - 1) P (ownPostG w.heap.size Kp I (fun c pre W => c = .ret ∧ Ix pre W) (pre ++ [x]) W)
      { tmps := ((a.tmps.setIfInBounds q1 (e1 x)).setIfInBounds q2 (e2 x)).setIfInBounds slot (.pointer (some ⟨Bx, 0, none⟩)), defers := [] } W)
    (hIw : ∀ pre W, I pre W → w.heap.size ≤ W.heap.size)
    (hdone : ∀ (D : Nat) (xs : List α) (W : World), w.heap.size ≤ D → S xs → I xs W → W.heap[D]? = some (.deferred (some [])) → Q .normal { a with defers := { target := .collected D, args := #[] } :: a.defers } W)
    (hstop : ∀ (D : Nat) (pre : List α) (W : World), w.heap.size ≤ D → Sp pre → Ix pre W → W.heap[D]? = some (.deferred (some [])) → Q .ret { a with defers := { target := .collected D, args := #[] } :: a.defers } W) :
    (Code.rangeFunc g #[q1, q2] assign body).wp P Q a w := by
  have hz : ∀ x, ((#[q1, q2].zip #[e1 x, e2 x]).foldl (fun t (p, v) => t.setIfInBounds p v) a.tmps) = (a.tmps.setIfInBounds q1 (e1 x)).setIfInBounds q2 (e2 x) := fun x => by rw [List.zip_toArray]; simp
  refine (wpIn_wide (n := n)).1 ?_
  refine wpIn_rangeFunc_ownH rfl h1 hg trivial eg hseq hKt hKb (Below.refl _ _) (fun _ => rfl) I (fun c pre W => c = .ret ∧ Ix pre W) hI (fun c s A B row hs hg hr => ⟨hs.1, hIx s A B row hs.2 hg hr⟩) h0
    (fun x a' W => ∃ Bx, w.heap.size ≤ Bx ∧ Blk W Bx t (cs x) ∧ a' = { tmps := ((a.tmps.setIfInBounds q1 (e1 x)).setIfInBounds q2 (e2 x)).setIfInBounds slot (.pointer (some ⟨Bx, 0, none⟩)), defers := [] })
    (fun x a' s W W' row h hg hr => ?_) (fun l pre x W K hI hK => ?_) (fun l pre x a' W _ _ hI hA _ => ?_) (fun D xs W h1 h2 h3 h4 => hdone D xs W h1 h2 h3 h4) (fun D c pre W h1 h2 h3 h4 => ?_)
  · obtain ⟨Bx, h1, h2, h3⟩ := h
    refine ⟨Bx, h1, (hg.block Bx h2.lt (fun e => ?_)).trans h2, h3⟩
    obtain ⟨_, o, ho, hc⟩ := hr Bx e.symm
    unfold Blk at h2
    rw [h2] at ho
    cases ho; cases hc
  · rw [hz]
    exact hassign l pre x W K (hIw pre W hI) hI (fun Bx W' k1 k2 k3 k4 k5 => hK _ W' k1 k2 k3 ⟨Bx, k4, k5, rfl⟩)
  · obtain ⟨Bx, h1, h2, rfl⟩ := hA
    exact hbody l pre x Bx W hI h1 h2
  · obtain ⟨rfl, h3⟩ := h3
    exact wpIn_ret (hstop D pre W h1 h2 h3 h4)
theorem keeps_putObj0 {N0 : Nat} (W : World) (l : Nat) (o o' : Obj) (hl : N0 ≤ l) (_ : W.heap[l]? = some o) : Keeps (fun i => N0 ≤ i) W (W.putObj l o') :=
  (Keeps.refl _ W).grown (grownBy_putObj' W l o') (fun i e _ => by cases e; exact hl)
end Go.Proofs.YtcjoapmodaioiaaGreatDoor
end

section
namespace Go.Proofs.YtcjoapmodaioiaaGreatDoor
open Go.RowKit Go.Shelf
attribute [local go_sem] Oper.semAt_some

theorem encl_bkl (s : List Ctx) : ∀ j, j ≤ s.length → (∀ x ∈ bkl s.length j, ¬ 0 < (s[x.1]).col) → enclP s = enclL (s.take (s.length - j)).reverse
  | 0, _, _ => by rw [Nat.sub_zero, List.take_of_length_le (Nat.le_refl _)]; rfl
  | j + 1, h, hx => by
    rw [bkl_succ (by omega)] at hx
    have h1 := encl_bkl s j (by omega) (fun x hm => hx x (List.mem_append_left _ hm))
    have h2 := hx ⟨s.length - 1 - j, by omega⟩ (by simp)
    have hi : s.length - (j + 1) < s.length := by omega
    have e : s.take (s.length - j) = s.take (s.length - (j + 1)) ++ [s[s.length - (j + 1)]] := by
      rw [show s.length - j = s.length - (j + 1) + 1 by omega, List.take_succ_eq_append_getElem hi]
    have h3 : ¬ 0 < (s[s.length - (j + 1)]).col := by
      have e2 : s.length - 1 - j = s.length - (j + 1) := by omega
      simp only [e2] at h2
      exact h2
    rw [h1, e, List.reverse_append, List.reverse_singleton, List.singleton_append, enclL, if_neg h3]
theorem encl_none (s : List Ctx) (h : ∀ x ∈ bkl s.length s.length, ¬ 0 < (s[x.1]).col) : enclP s = 0 := by
  rw [encl_bkl s s.length (Nat.le_refl _) h, Nat.sub_self]; rfl
theorem encl_some (s : List Ctx) (j : Nat) (hj : j < s.length) (h : ∀ x ∈ bkl s.length j, ¬ 0 < (s[x.1]).col) (hc : 0 < (s[s.length - 1 - j]'(by omega)).col) : enclP s = (s[s.length - 1 - j]'(by omega)).col := by
  have hi : s.length - (j + 1) < s.length := by omega
  have e : s.take (s.length - j) = s.take (s.length - (j + 1)) ++ [s[s.length - (j + 1)]] := by
    rw [show s.length - j = s.length - (j + 1) + 1 by omega, List.take_succ_eq_append_getElem hi]
  have e2 : s.length - 1 - j = s.length - (j + 1) := by omega
  simp only [e2] at hc ⊢
  rw [encl_bkl s j (by omega) h, e, List.reverse_append, List.reverse_singleton, List.singleton_append, enclL, if_pos hc]
structure En (s : List Ctx) (N0 : Nat) (w2 : World) (pre : List { i : Nat // i < s.length }) (W : World) : Prop where
  none_ : ∀ x ∈ pre, ¬ 0 < (s[x.1]).col
  keeps : Keeps (fun i => N0 ≤ i) w2 W
structure Ex (s : List Ctx) (b2 N0 : Nat) (w2 : World) (pre : List { i : Nat // i < s.length }) (W : World) : Prop where
  found : ∃ p x, pre = p ++ [x] ∧ (∀ y ∈ p, ¬ 0 < (s[y.1]).col) ∧ 0 < (s[x.1]).col ∧ Blk W b2 3 [.int .i64 (s[x.1]).col]
  keeps : Keeps (fun i => i = b2 ∨ N0 ≤ i) w2 W
theorem en_own {s : List Ctx} {N0 : Nat} {w2 : World} : OwnFrom N0 (fun (pre : List { i : Nat // i < s.length }) W => En s N0 w2 pre W) := by
  intro pre W W' row h hg hr
  exact ⟨h.none_, h.keeps.grown hg (fun i e _ => (hr i e).1)⟩
theorem ex_own {s : List Ctx} {b2 N0 : Nat} {w2 : World} (hb : b2 < N0) : OwnFrom N0 (fun (pre : List { i : Nat // i < s.length }) W => Ex s b2 N0 w2 pre W) := by
  intro pre W W' row h hg hr
  obtain ⟨p, x, h1, h2, h3, h4⟩ := h.found
  exact ⟨⟨p, x, h1, h2, h3, (hg.block b2 h4.lt (fun e => by have := (hr b2 e.symm).1; omega)).trans h4⟩, h.keeps.grown hg (fun i e _ => .inr (hr i e).1)⟩
set_option maxRecDepth 100000 in
set_option maxHeartbeats 8000000 in
theorem encl_any (W : World) (B bm : Nat) (sv ov : Value) (m : Mk) (h : MkAt W B bm sv ov m) :
    Calls Tryz.prog 40 #[.pointer (some ⟨bm, 0, none⟩)] W (fun e w' => e = .returned (.int .i64 (enclP m.st)) ∧ Keeps (fun _ => False) W w') := by
  obtain ⟨A, cc, A2, c2, rfl, rfl, hc1, hc2, _, _⟩ := h.form
  obtain ⟨s, hs⟩ : ∃ s, m.st = s := ⟨_, rfl⟩
  have hsl := h.sl
  rw [hs] at hsl hc1 h ⊢
  have hln : s.length ≤ 9223372036854775807 := by unfold maxLen at hc2; omega
  obtain ⟨b2, hb2⟩ : ∃ b2, W.heap.size = b2 := ⟨_, rfl⟩
  obtain ⟨W0, hW0⟩ : ∃ W0, W.alloc (.cells #[.int .i64 0] 3) = W0 := ⟨_, rfl⟩
  have hk0 : Keeps (fun _ => False) W W0 := by rw [← hW0]; exact (Keeps.refl _ _).alloc _
  have hB2 : Blk W0 b2 3 [.int .i64 0] := by rw [← hW0, ← hb2]; exact Blk.new W _ [_]
  have hl0 := (h.same hk0).box.lt
  have c0 := (h.same hk0).box.cell (i := 0) rfl
  have hs0 := hk0.size
  have HSl := Lib.hid (hsl.keeps hk0 (fun _ _ h => h))
  have HLow : Hid (∀ i, (Value.slice A s.length cc).ownBlock = some i → i < b2) := fun i hi => by have := h.lt i (.inr (.inl hi)); omega
  have HB2 := Lib.hid hB2
  have HK0 := Lib.hid hk0
  have HW0 := Lib.hid hW0
  have HBn := Lib.hid hb2
  clear h hsl hk0 hB2 hW0 hb2 hc2 hs
  refine (callsIn_wide (n := 4)).1 ?_
  refine callsIn_of_wp_marks Tryz.func40 rfl trivial ?_ rfl
  refine wpIn_wide.2 ?_
  simp only [Tryz.ntmps40, List.size_toArray, List.length_cons, List.length_nil, Nat.reduceAdd, Nat.reduceSub, Array.replicate_succ, Array.replicate_zero, List.push_toArray, List.append_toArray, List.nil_append, List.cons_append]
  go_upto_region 1 with (fail)
  rw [HW0.out, HBn.out]
  go_wp2_with ((go_at_call 82; with_reducible refine (backward_any _ _ _ _).mono ?_); rintro e w1 ⟨rfl, rfl⟩)
  obtain ⟨w2, hw2⟩ : ∃ w2, W0.alloc (.cells #[.slice A s.length cc] 88) = w2 := ⟨_, rfl⟩
  have hbx := Blk.new W0 88 [.slice A s.length cc]
  have hk2 : Keeps (fun _ => False) W0 w2 := by rw [← hw2]; exact (Keeps.refl _ _).alloc _
  have hz2 : w2.heap.size = W0.heap.size + 1 := by rw [← hw2]; simp
  rw [hw2] at hbx ⊢
  obtain ⟨bs, hbs⟩ : ∃ bs, W0.heap.size = bs := ⟨_, rfl⟩
  simp only [hbs] at hbx hz2 ⊢
  have HBX := Lib.hid hbx
  have HK2 := Lib.hid hk2
  have HZ2 := Lib.hid hz2
  have HBS := Lib.hid hbs
  obtain ⟨el, hel⟩ : ∃ el : Nat → V2, ∀ k (hk : k < s.length), el k = ⟨.int .i64 (s[k]).col, .string (s[k]).op⟩ := ⟨fun k => ⟨.int .i64 ((s[k]?).getD zCtx).col, .string ((s[k]?).getD zCtx).op⟩, fun k hk => by simp [hk]⟩
  have HEL := Lib.hid hel
  have HN : Hid (b2 < w2.heap.size) := by have := HB2.out.lt; show _ < _; omega
  have HCells : Hid (∃ g off, (0 < s.length → A = some ⟨g, off, none⟩) ∧ (0 < s.length → g < b2) ∧ ∀ k (hk : k < s.length), W0.cell? ⟨g, off + k * 2, none⟩ = some (.int .i64 (s[k]).col) ∧ W0.cell? ⟨g, off + k * 2 + 1, none⟩ = some (.string (s[k]).op)) := by
    by_cases hl : 0 < s.length
    · obtain ⟨g, off, hA, hg, _, _, _, _⟩ := Ctx.get HSl.out hl
      refine ⟨g, off, fun _ => hA, fun _ => HLow.out g hg, fun k hk => ?_⟩
      obtain ⟨g', off', hA', _, d0, d1, _, _⟩ := Ctx.get HSl.out hk
      rw [hA] at hA'
      simp only [Option.some.injEq, Addr.mk.injEq, and_true] at hA'
      obtain ⟨rfl, rfl⟩ := hA'
      exact ⟨d0, d1⟩
    · exact ⟨0, 0, fun h => absurd h hl, fun h => absurd h hl, fun k hk => absurd (Nat.lt_of_le_of_lt (Nat.zero_le k) hk) hl⟩
  clear hbx hk2 hw2 hz2 hbs hel c0
  refine range_box (n := 4) (by omega) (gf := 117) (lb := #[.pointer (some ⟨bs, 0, none⟩)]) rfl (enters_of Tryz.func117 (by kernel_rfl) rfl)
    (e1 := fun x : { i : Nat // i < s.length } => .int .i64 (x.1 : Int)) (e2 := fun x => .agg #[(el x.1).e0, (el x.1).e1]) (Kp := Keeps (fun i => i = b2 ∨ w2.heap.size ≤ i)) (S := fun xs => xs = bkl s.length s.length) (Sp := fun pre => ∃ k, k ≤ s.length ∧ pre = bkl s.length k) (N := s.length) ?seq (fun h k => h.trans k (fun _ _ h => h)) (fun W l o o' h1 h2 _ _ => (keeps_putObj0 W l o o' h1 h2).mono (fun _ _ h => .inr h))
    (fun pre W => En s w2.heap.size w2 pre W) (fun pre W => Ex s b2 w2.heap.size w2 pre W) en_own (ex_own HN.out) ?h0 4 96 (fun x => [(el x.1).e0, (el x.1).e1]) ?assign ?body (fun pre W h => h.keeps.size) ?done ?stop
  case seq =>
    intro l J Jx W1 hW1 _ _ hY h0
    obtain ⟨g, off, hA, hgl, hcs⟩ := HCells.out
    refine (back_in 3 l bs g off s.length cc A hA hln el (Keeps (fun i => i = b2 ∨ w2.heap.size ≤ i)) (fun W => Keeps.refl _ W) (fun h k => h.trans k (fun _ _ h => h)) J Jx hY W1 (fun W' hk => ?_) h0).mono (fun e W' h => h)
    have hz2 := HZ2.out
    have hbl := HB2.out.lt
    have hbs := HBS.out
    refine ⟨hk.cell ((hW1.cell (p := ⟨bs, 0, none⟩) (show bs < w2.heap.size by omega)).trans (HBX.out.cell (i := 0) rfl)) (fun h => by rcases h with h | h <;> (simp only at h; omega)), fun k hkl => ?_⟩
    have hg := hgl (by omega)
    obtain ⟨d0, d1⟩ := hcs k hkl
    rw [HEL.out k hkl]
    exact ⟨hk.cell ((hW1.cell (p := ⟨g, off + k * 2, none⟩) (show g < w2.heap.size by omega)).trans (HK2.out.cell d0 (fun h => h))) (fun h => by rcases h with h | h <;> (simp only at h; omega)), hk.cell ((hW1.cell (p := ⟨g, off + k * 2 + 1, none⟩) (show g < w2.heap.size by omega)).trans (HK2.out.cell d1 (fun h => h))) (fun h => by rcases h with h | h <;> (simp only at h; omega))⟩
  case h0 => exact ⟨(fun x hx => by cases hx), Keeps.refl _ _⟩
  case assign =>
    intro l pre x W1 K hsz hI hK
    have he := HEL.out x.1 x.2
    have hK2 := hK W1.heap.size (W1.alloc (.cells #[.int .i64 (s[x.1]).col, .string (s[x.1]).op] 96)) ((KeepsOthers.alloc _ _).from _) ((Keeps.refl _ _).alloc _) (en_own.alloc _ hI) hsz (by rw [he]; exact Blk.new W1 _ [_, _])
    have HK2' := Lib.hid hK2
    clear hK hK2
    simp only [he] at HK2' ⊢
    clear he
    gi_wp2
    exact HK2'.out
  case body =>
    intro l pre x Bx W1 hI hBx hblk
    have he := HEL.out x.1 x.2
    simp only [he] at hblk ⊢
    obtain ⟨c, hc⟩ : ∃ c, s[x.1] = c := ⟨_, rfl⟩
    rw [hc] at hblk ⊢
    have HC := Lib.hid hc
    have hb2 := (HB2.out.keeps HK2.out (fun h => h)).keeps hI.keeps (fun h => by have := HN.out; omega)
    have x0 := hblk.cell (i := 0) rfl
    have y0 := hb2.cell (i := 0) rfl
    have f0 := hb2.free 0
    have hl2 := hb2.lt
    have hlx := hblk.lt
    have HI := Lib.hid hI
    have HB := Lib.hid hb2
    clear he hc hI hb2 hblk
    refine wpIn_block ?_
    simp only [List.setIfInBounds_toArray, List.set_cons_zero, List.set_cons_succ]
    by_cases hcol : 0 < c.col
    · gi_wp2
      exact ⟨(KeepsOthers.setCell _ _ _).from _, rfl, ⟨⟨pre, x, rfl, HI.out.none_, by rw [HC.out]; exact hcol, by rw [HC.out]; exact HB.out.set_ 0 _⟩, (HI.out.keeps.mono (fun i _ h => .inr h)).setCell (p := ⟨b2, 0, none⟩) (fun _ => .inl rfl) _⟩⟩
    · have HNc : Hid (¬ 0 < c.col) := hcol
      gi_wp2
      exact ⟨KeepsFrom.refl _ _, Keeps.refl _ _, ⟨fun y hy => (List.mem_append.1 hy).elim (HI.out.none_ y) (fun e => by rw [List.mem_singleton.1 e, HC.out]; have := HNc.out; omega), HI.out.keeps⟩⟩
  case done =>
    intro D xs W1 hD hxs hI hdf
    have hz := encl_none s (by intro x hx; exact hI.none_ x (by rw [hxs]; exact hx))
    have hb2 := (HB2.out.keeps HK2.out (fun h => h)).keeps hI.keeps (fun h => by have := HN.out; omega)
    have y0 := hb2.cell (i := 0) rfl
    have f0 := hb2.free 0
    have hl2 := hb2.lt
    have HI := Lib.hid hI
    have HB := Lib.hid (hb2.set_ 0 (.int .i64 0))
    have HD := Lib.hid ((KeepsOthers.setCell W1 ⟨b2, 0, none⟩ (.int .i64 0)).same D _ hdf rfl)
    have HZ := Lib.hid hz
    clear hz hI hb2 hdf
    go_wp2
    rw [HZ.out]
    refine ⟨by simp, .inl ⟨_, _, rfl, run_takeDeferred HD.out, ?_⟩⟩
    have hcell := (grownBy_putObj' (W1.setCell ⟨b2, 0, none⟩ (.int .i64 0)) D (.deferred none)).cell (HB.out.cell (i := 0) rfl) (fun e => by have h1 := HN.out; have e2 : b2 = D := (by simpa using e); omega)
    refine ⟨.int .i64 0, ?_, rfl, ?_⟩
    · simp [results, Tryz.f40, go_sem, hcell]
    · have h1 := HK0.out
      have h2 := HN.out
      have h3 := HBn.out
      have h4 := ((HI.out.keeps.mono (Y := fun i => i = b2 ∨ w2.heap.size ≤ i) (fun i _ h => .inr h)).setCell (p := ⟨b2, 0, none⟩) (fun _ => .inl rfl) (.int .i64 0)).grown (grownBy_putObj' _ D (.deferred none)) (fun i e _ => by cases e; exact .inr hD)
      have h5 := (h1.trans HK2.out (fun _ _ h => h)).size
      exact Keeps.of_below (X := fun _ => False) ((((h1.trans HK2.out (fun _ _ h => h)).mono (Y := fun i => i = b2 ∨ w2.heap.size ≤ i) (fun _ _ h => h.elim)).trans h4 (fun _ _ h => h)).below (fun i hi => by rcases hi with hi | hi <;> omega) (Nat.le_refl _))
  case stop =>
    intro D pre W1 hD hsp hI hdf
    obtain ⟨p, x, hpx, hno, hcol, hb⟩ := hI.found
    obtain ⟨k, hk, hpk⟩ := hsp
    have hz : enclP s = (s[x.1]).col := by
      obtain ⟨j, rfl⟩ : ∃ j, k = j + 1 := ⟨k - 1, by
        have : pre ≠ [] := by rw [hpx]; simp
        rcases Nat.eq_zero_or_pos k with h | h
        · rw [h] at hpk; exact absurd hpk this
        · omega⟩
      rw [hpx, bkl_succ (by omega)] at hpk
      have hp := List.append_inj_left' hpk rfl
      have hx := List.append_inj_right' hpk rfl
      simp only [List.cons.injEq, and_true] at hx
      rw [hx] at hcol ⊢
      exact encl_some s j (by omega) (by intro y hy; exact hno y (by rw [hp]; exact hy)) hcol
    have HI := Lib.hid hI
    have HB := Lib.hid hb
    have HD := Lib.hid hdf
    have HZ := Lib.hid hz
    clear hz hI hb hdf hpk hcol hno hpx
    go_wp2
    rw [HZ.out]
    refine ⟨by simp, .inl ⟨_, _, rfl, run_takeDeferred HD.out, ?_⟩⟩
    have hcell := (grownBy_putObj' W1 D (.deferred none)).cell (HB.out.cell (i := 0) rfl) (fun e => by have h1 := HN.out; have e2 : b2 = D := (by simpa using e); omega)
    refine ⟨.int .i64 (s[x.1]).col, ?_, rfl, ?_⟩
    · simp [results, Tryz.f40, go_sem, hcell]
    · have h1 := HK0.out
      have h2 := HN.out
      have h3 := HBn.out
      have h4 := HI.out.keeps.grown (grownBy_putObj' W1 D (.deferred none)) (fun i e _ => by cases e; exact .inr hD)
      have h5 := (h1.trans HK2.out (fun _ _ h => h)).size
      exact Keeps.of_below (X := fun _ => False) ((((h1.trans HK2.out (fun _ _ h => h)).mono (Y := fun i => i = b2 ∨ w2.heap.size ≤ i) (fun _ _ h => h.elim)).trans h4 (fun _ _ h => h)).below (fun i hi => by rcases hi with hi | hi <;> omega) (Nat.le_refl _))
end Go.Proofs.YtcjoapmodaioiaaGreatDoor
end
