/- The parser: PaG, PaH. -/
import Derived.Test.YtcjoapmodaioiaaGreatDoorPaE
section
set_option linter.unusedVariables false
set_option linter.unusedSimpArgs false
namespace Go.Proofs.YtcjoapmodaioiaaGreatDoor
open Go.RowKit Go.Shelf Pa
set_option maxRecDepth 100000
set_option maxHeartbeats 8000000

section
variable {c : Cx}
def PtAt (c : Cx) (n : Nat) : Prop := Meth c 167 #[.pointer (some ⟨c.bp, 0, none⟩)] (pats (c.l.map Tok.bt) n .pattern) vNum ∧ Meth c 170 #[.pointer (some ⟨c.bp, 0, none⟩)] (pats (c.l.map Tok.bt) n .apat) vNum
theorem apat_step (hS : TokSt c.l) (n : Nat) (hn : n ≤ 1000000) (IH : PtAt c n) : Meth c 170 #[.pointer (some ⟨c.bp, 0, none⟩)] (pats (c.l.map Tok.bt) (n + 1) .apat) vNum := by
  (refine Meth.mk fun E s0 r W HF1 hb hr ho => ?_); have HN := Lib.hid (next_any hS); (have HK := Lib.hid (fun k => kind_any hS k)); (have HWt := Lib.hid (fun k x => want_any hS k x)); have HPm := Lib.hid (param_any hS); have HPt := Lib.hid IH.1; have HAp := Lib.hid IH.2; simp only [Pa.pats] at hr; have HB := Lib.hid hb; have HO := Lib.hid ho; clear hb ho; have HR := Lib.hid hr; clear hr; obtain ⟨t2, HT2⟩ := hidE (tokT c s0); (try simp only [NM, reduceIte, HT2.out, bt_n] at HR); have fld0 := fldT0; have fld1 := fldT1; have fld2 := fldT2; go_enter Tryz.func170, Tryz.ntmps170; go_wp2_with fail
  with_reducible refine (HF1.tok).mono ?_
  rintro e w3 ⟨rfl, HF4⟩; rw [HT2.out]; go_upto_region 2 with (fail); obtain ⟨b5, w5, hb5, hw5, HF6⟩ := HF4.boxT 3 t2; rw [hw5, hb5]; clear hw5 hb5; obtain ⟨j0, j1, j2, j3, j4⟩ := HF6.b0.t5; obtain ⟨q7, eq7⟩ : ∃ q, (t2.bt.kind == 0) = q := ⟨_, rfl⟩; (try simp only [NM, reduceIte, eq7, bt_n] at HR); have hq7 : (t2.kind == 0) = q7 := eq7; (have nq7 : (t2.kind != 0) = !q7 := by rw [bne, hq7]); clear eq7; cases q7
  · simp only [NB] at nq7; (try simp only [NM, reduceIte, bt_n] at HR); obtain ⟨q8, eq8⟩ : ∃ q, (t2.bt.kind == 1) = q := ⟨_, rfl⟩; (try simp only [NM, reduceIte, eq8, bt_n] at HR); have hq8 : (t2.kind == 1) = q8 := eq8; (have nq8 : (t2.kind != 1) = !q8 := by rw [bne, hq8]); clear eq8; cases q8
    · simp only [NB] at nq8; (try simp only [NM, reduceIte, bt_n] at HR); obtain ⟨q9, eq9⟩ : ∃ q, (t2.bt.kind == 2) = q := ⟨_, rfl⟩; (try simp only [NM, reduceIte, eq9, bt_n] at HR); have hq9 : (t2.kind == 2) = q9 := eq9; (have nq9 : (t2.kind != 2) = !q9 := by rw [bne, hq9]); clear eq9; cases q9
      · simp only [NB] at nq9; (try simp only [NM, reduceIte, bt_n] at HR); obtain ⟨q10, hq10⟩ : ∃ q, isB t2.bt 5 ⟨#[40]⟩ = q := ⟨_, rfl⟩; have HI10 := Lib.hid (HF6.is 5 ⟨#[40]⟩); rw [HT2.out, hq10] at HI10; (try simp only [NM, reduceIte, hq10, bt_n] at HR); clear hq10; go_wp2_with fail
        with_reducible refine HI10.out.mono ?_
        rintro e w10 ⟨rfl, HF11⟩; clear j0 j1 j2 j3 j4; obtain ⟨j0, j1, j2, j3, j4⟩ := HF11.b0.t5; cases q10
        · (try simp only [NM, reduceIte, bt_n] at HR); go_wp2_with fail
          with_reducible refine (HF11.fail' 5 HB.out).mono ?_
          rintro e w12 ⟨rfl, hq⟩; have hq := Lib.hid hq; have hr := HR.out; clear HR; subst hr; clear j0 j1 j2 j3 j4; go_wp2_with fail; exact ⟨rfl, rfl, hq.out.sub (by simp)⟩
        · (try simp only [NM, reduceIte, bt_n] at HR); go_wp2_with fail
          with_reducible refine HF11.bind HN.out HB.out HR.out HO.out ?_ ?_
          · rintro s9 w9 rfl hq9; go_wp2_with fail; exact ⟨rfl, rfl, hq9.sub (by simp)⟩
          rintro a13 s13 e w13 ⟨u13, rfl, rfl, hwf13⟩ HF14 hr; clear j0 j1 j2 j3 j4; clear HR; have HR := Lib.hid hr; clear hr; obtain ⟨t15, HT15⟩ := hidE (tokT c s13); (try simp only [NM, reduceIte, HT15.out, bt_n] at HR); obtain ⟨j0, j1, j2, j3, j4⟩ := HF14.b0.t5; go_wp2_with fail
          with_reducible refine HF14.bind HPt.out HB.out HR.out HO.out ?_ ?_
          · rintro s9 w9 rfl hq9; go_wp2_with fail; exact ⟨rfl, rfl, hq9.sub (by simp)⟩
          rintro a16 s16 e w16 ⟨rfl, hi16⟩ HF17 hr; unfold kidC; clear j0 j1 j2 j3 j4; clear HR; have HR := Lib.hid hr; clear hr; obtain ⟨t18, HT18⟩ := hidE (tokT c s16); (try simp only [NM, reduceIte, HT18.out, bt_n] at HR); obtain ⟨j0, j1, j2, j3, j4⟩ := HF17.b0.t5; go_wp2_with fail
          with_reducible refine HF17.bind (HWt.out 5 ⟨#[41]⟩) HB.out HR.out HO.out ?_ ?_
          · rintro s9 w9 rfl hq9; go_wp2_with fail; exact ⟨rfl, rfl, hq9.sub (by simp)⟩
          rintro a19 s19 e w19 ⟨u19, rfl, rfl, hwf19⟩ HF20 hr; clear j0 j1 j2 j3 j4; clear HR; have HR := Lib.hid hr; clear hr; obtain ⟨t21, HT21⟩ := hidE (tokT c s19); (try simp only [NM, reduceIte, HT21.out, bt_n] at HR); obtain ⟨j0, j1, j2, j3, j4⟩ := HF20.b0.t5; have hr := HR.out; clear HR; subst hr; go_wp2_with fail; go_ret; exact ⟨⟨rfl, hi16⟩, HF20.sub (by simp)⟩
      · simp only [NB] at nq9; (try simp only [NM, reduceIte, bt_n] at HR); go_wp2_with fail
        with_reducible refine HF6.bind HN.out HB.out HR.out HO.out ?_ ?_
        · rintro s9 w9 rfl hq9; go_wp2_with fail; exact ⟨rfl, rfl, hq9.sub (by simp)⟩
        rintro a22 s22 e w22 ⟨u22, rfl, rfl, hwf22⟩ HF23 hr; clear j0 j1 j2 j3 j4; clear HR; have HR := Lib.hid hr; clear hr; obtain ⟨t24, HT24⟩ := hidE (tokT c s22); (try simp only [NM, reduceIte, HT24.out, bt_n] at HR); obtain ⟨j0, j1, j2, j3, j4⟩ := HF23.b0.t5; go_wp2_with fail; refine HF23.putT HB.out t2 { kind := 37, n := t2.n } 999 (.slice none 0 0) [.box 3 b5 59 (TC t2)] (.inl ⟨rfl, rfl⟩) (by simp [Loc.key]) HR.out ?_ ?_
        · rintro s9 w9 rfl hq9; go_wp2_with fail; exact ⟨rfl, rfl, hq9.sub (by simp)⟩
        intro i25 s25 w25 hi25 HF26 hr; unfold kidC; clear j0 j1 j2 j3 j4; clear HR; have HR := Lib.hid hr; clear hr; obtain ⟨j0, j1, j2, j3, j4⟩ := HF26.b0.t5; have hr := HR.out; clear HR; subst hr; go_wp2_with fail; go_ret; exact ⟨⟨rfl, hi25⟩, HF26.sub (by simp)⟩
    · simp only [NB] at nq8; (try simp only [NM, reduceIte, bt_n] at HR); go_wp2_with fail
      with_reducible refine HF6.bind HN.out HB.out HR.out HO.out ?_ ?_
      · rintro s9 w9 rfl hq9; go_wp2_with fail; exact ⟨rfl, rfl, hq9.sub (by simp)⟩
      rintro a27 s27 e w27 ⟨u27, rfl, rfl, hwf27⟩ HF28 hr; clear j0 j1 j2 j3 j4; clear HR; have HR := Lib.hid hr; clear hr; obtain ⟨t29, HT29⟩ := hidE (tokT c s27); (try simp only [NM, reduceIte, HT29.out, bt_n] at HR); obtain ⟨j0, j1, j2, j3, j4⟩ := HF28.b0.t5; go_wp2_with fail; refine HF28.putT HB.out t2 { kind := 38, text := t2.text } 999 (.slice none 0 0) [.box 3 b5 59 (TC t2)] (.inl ⟨rfl, rfl⟩) (by simp [Loc.key]) HR.out ?_ ?_
      · rintro s9 w9 rfl hq9; go_wp2_with fail; exact ⟨rfl, rfl, hq9.sub (by simp)⟩
      intro i30 s30 w30 hi30 HF31 hr; unfold kidC; clear j0 j1 j2 j3 j4; clear HR; have HR := Lib.hid hr; clear hr; obtain ⟨j0, j1, j2, j3, j4⟩ := HF31.b0.t5; have hr := HR.out; clear HR; subst hr; go_wp2_with fail; go_ret; exact ⟨⟨rfl, hi30⟩, HF31.sub (by simp)⟩
  · simp only [NB] at nq7; (try simp only [NM, reduceIte, bt_n] at HR); go_wp2_with fail
    with_reducible refine HF6.tail HPm.out HB.out HR.out HO.out ?_ ?_
    · rintro s9 w9 rfl hq9; go_wp2_with fail; exact ⟨rfl, rfl, hq9.sub (by simp)⟩
    rintro a32 s32 e w32 ⟨rfl, hi32⟩ HF33 hr; unfold kidC; clear j0 j1 j2 j3 j4; clear HR; have HR := Lib.hid hr; clear hr; obtain ⟨j0, j1, j2, j3, j4⟩ := HF33.b0.t5; have hr := HR.out; clear HR; subst hr; go_wp2_with fail; go_ret; exact ⟨⟨rfl, hi32⟩, HF33.sub (by simp)⟩
theorem pattern_step (hS : TokSt c.l) (n : Nat) (hn : n ≤ 1000000) (IH : PtAt c n) : Meth c 167 #[.pointer (some ⟨c.bp, 0, none⟩)] (pats (c.l.map Tok.bt) (n + 1) .pattern) vNum := by
  (refine Meth.mk0 fun E s0 r W HF1 hb hr ho h0 => ?_); have HN := Lib.hid (next_any hS); (have HK := Lib.hid (fun k => kind_any hS k)); (have HWt := Lib.hid (fun k x => want_any hS k x)); have HPm := Lib.hid (param_any hS); have HPt := Lib.hid IH.1; have HAp := Lib.hid IH.2; simp only [Pa.pats] at hr; have HB := Lib.hid hb; have HO := Lib.hid ho; clear hb ho; have HR := Lib.hid hr; clear hr; obtain ⟨t2, HT2⟩ := hidE (tokT c s0); (try simp only [NM, reduceIte, HT2.out, bt_n] at HR); have fld0 := fldT0; have fld1 := fldT1; have fld2 := fldT2; go_enter_defers Tryz.func167, Tryz.ntmps167; go_wp2_with fail
  with_reducible refine HF1.down HB.out HR.out HO.out ?_ ?_
  · rintro s9 w9 rfl hq9; go_wp2_with fail; exact up_no0 rfl ⟨rfl, hq9.sub (by simp)⟩
  intro s3 w3 HF4 hr; clear HR; have HR := Lib.hid hr; clear hr; obtain ⟨t5, HT5⟩ := hidE (tokT c s3); (try simp only [NM, reduceIte, HT5.out, bt_n] at HR); go_wp2_with fail
  with_reducible refine (HF4.tok).mono ?_
  rintro e w6 ⟨rfl, HF7⟩; rw [HT5.out]; go_upto_region 4 with (fail); obtain ⟨b8, w8, hb8, hw8, HF9⟩ := HF7.boxT 3 t5; rw [hw8, hb8]; clear hw8 hb8; obtain ⟨j0, j1, j2, j3, j4⟩ := HF9.b0.t5; obtain ⟨q10, eq10⟩ : ∃ q, (t5.bt.kind == 1) = q := ⟨_, rfl⟩; (try simp only [NM, reduceIte, eq10, bt_n] at HR); have hq10 : (t5.kind == 1) = q10 := eq10; (have nq10 : (t5.kind != 1) = !q10 := by rw [bne, hq10]); clear eq10; cases q10
  · simp only [NB] at nq10; (try simp only [NM, reduceIte, bt_n] at HR); go_wp2_with fail
    with_reducible refine HF9.bind HAp.out HB.out HR.out HO.out ?_ ?_
    · rintro s9 w9 rfl hq9; go_wp2_with fail; exact up_no rfl h0 hq9 (fun w hq => ⟨rfl, hq⟩)
    rintro a11 s11 e w11 ⟨rfl, hi11⟩ HF12 hr; unfold kidC; clear j0 j1 j2 j3 j4; clear HR; have HR := Lib.hid hr; clear hr; obtain ⟨t13, HT13⟩ := hidE (tokT c s11); (try simp only [NM, reduceIte, HT13.out, bt_n] at HR); obtain ⟨j0, j1, j2, j3, j4⟩ := HF12.b0.t5; have hr := HR.out; clear HR; subst hr; go_wp2_with fail; exact up_ret rfl h0 HF12.out (fun w => results_tmp rfl _ _ _) (fun w hq => ⟨⟨rfl, hi11⟩, hq⟩)
  · simp only [NB] at nq10; (try simp only [NM, reduceIte, bt_n] at HR); go_wp2_with fail
    with_reducible refine HF9.bind HN.out HB.out HR.out HO.out ?_ ?_
    · rintro s9 w9 rfl hq9; go_wp2_with fail; exact up_no rfl h0 hq9 (fun w hq => ⟨rfl, hq⟩)
    rintro a14 s14 e w14 ⟨u14, rfl, rfl, hwf14⟩ HF15 hr; clear j0 j1 j2 j3 j4; clear HR; have HR := Lib.hid hr; clear hr; obtain ⟨t16, HT16⟩ := hidE (tokT c s14); (try simp only [NM, reduceIte, HT16.out, bt_n] at HR); obtain ⟨j0, j1, j2, j3, j4⟩ := HF15.b0.t5; have HF17 := HF15.nil 4; clear j0 j1 j2 j3 j4; obtain ⟨j0, j1, j2, j3, j4⟩ := HF17.b1.t5; go_wp2_with fail
    with_reducible refine (HF17.tok).mono ?_
    rintro e w18 ⟨rfl, HF19⟩; rw [HT16.out]; clear j0 j1 j2 j3 j4; obtain ⟨j0, j1, j2, j3, j4⟩ := HF19.b1.t5; have hr := HR.out; clear HR; obtain ⟨F20, g20, hFF20, hGG20, hr⟩ := split_loop hr; have HFF20 := Lib.hid hFF20; have HGG20 := Lib.hid hGG20; have HR := Lib.hid hr; clear hr hFF20 hGG20; (have HF21 := HF19.sub (L' := [.row 4 (.slice none 0 0) [], .box 3 b8 59 (TC t5)]) (by simp)); clear HF19; clear j0 j1 j2 j3 j4; go_wp2_with fail; go_loopg [4, 5] n (fun gk x4 x5 wr => ∃ (s5 : Ps) (l5 : List Nat), Fr c { E with lo := E.lo + 1 } 0 [.row 4 x4 l5, .box 3 b8 59 (TC t5)] s5 wr ∧ l5.length + gk ≤ 1000000 ∧ Hid ((loop F20 gk l5 >>= g20) s5 = r) ∧ x5 = .int .i64 (tokT c s5).kind)
    case atStart => exact ⟨s14, [], HF21.out, by (try simp only [List.length_nil, List.length_cons]); omega, HR.out, by rw [HT16.out]⟩
    case round =>
      obtain ⟨w20, rfl⟩ : ∃ w, w = wr := ⟨_, rfl⟩; clear HR HF21; obtain ⟨s20, l20, HF22, hl20, hr, rfl⟩ := hrel; obtain ⟨A20, cp20, hv20, _⟩ := own_formP HF22.r0; subst hv20; obtain _ | m20 := gk
      · exact absurd (loop_zero hr.out) HO.out
      have HR := Lib.hid (loop_step hr.out HFF20.out); clear hr; obtain ⟨t23, HT23⟩ := hidE (tokT c s20); (try simp only [NM, reduceIte, HT23.out, bt_n] at HR); obtain ⟨j0, j1, j2, j3, j4⟩ := HF22.b1.t5; rw [HT23.out]; obtain ⟨q24, eq24⟩ : ∃ q, (t23.bt.kind == 0) = q := ⟨_, rfl⟩; (try simp only [NM, reduceIte, eq24, bt_n] at HR); have hq24 : (t23.kind == 0) = q24 := eq24; (have nq24 : (t23.kind != 0) = !q24 := by rw [bne, hq24]); clear eq24; cases q24
      · simp only [NB] at nq24; (try simp only [NM, reduceIte, bt_n] at HR); obtain ⟨q25, eq25⟩ : ∃ q, (t23.bt.kind == 1) = q := ⟨_, rfl⟩; (try simp only [NM, reduceIte, eq25, bt_n] at HR); have hq25 : (t23.kind == 1) = q25 := eq25; (have nq25 : (t23.kind != 1) = !q25 := by rw [bne, hq25]); clear eq25; cases q25
        · simp only [NB] at nq25; (try simp only [NM, reduceIte, bt_n] at HR); obtain ⟨q26, eq26⟩ : ∃ q, (t23.bt.kind == 2) = q := ⟨_, rfl⟩; (try simp only [NM, reduceIte, eq26, bt_n] at HR); have hq26 : (t23.kind == 2) = q26 := eq26; (have nq26 : (t23.kind != 2) = !q26 := by rw [bne, hq26]); clear eq26; cases q26
          · simp only [NB] at nq26; (try simp only [NM, reduceIte, bt_n] at HR); obtain ⟨q27, hq27⟩ : ∃ q, isB t23.bt 5 ⟨#[40]⟩ = q := ⟨_, rfl⟩; have HI27 := Lib.hid (HF22.is 5 ⟨#[40]⟩); rw [HT23.out, hq27] at HI27; (try simp only [NM, reduceIte, hq27, bt_n] at HR); clear hq27; go_wp2_with fail
            with_reducible refine HI27.out.mono ?_
            rintro e w27 ⟨rfl, HF28⟩; clear j0 j1 j2 j3 j4; obtain ⟨j0, j1, j2, j3, j4⟩ := HF28.b1.t5; cases q27
            · (try simp only [NM, reduceIte, bt_n] at HR); (try simp only [NM, reduceIte, HGG20.out, bt_n] at HR); (try simp only [NM, reduceIte, HT23.out, bt_n] at HR); go_wp2_with fail; refine HF28.put HB.out t5 { kind := 38, text := t5.text, kids := l20 } 4 ((.slice A20 l20.length cp20)) [.box 3 b8 59 (TC t5)] (.inr List.mem_cons_self) (by simp [Loc.key]) HR.out ?_ ?_
              · rintro s9 w9 rfl hq9; go_wp2_with fail; exact up_no rfl h0 hq9 (fun w hq => ⟨rfl, hq⟩)
              intro i29 s29 w29 hi29 HF30 hr; unfold kidC; clear j0 j1 j2 j3 j4; clear HR; have HR := Lib.hid hr; clear hr; obtain ⟨t31, HT31⟩ := hidE (tokT c s29); (try simp only [NM, reduceIte, HT31.out, bt_n] at HR); obtain ⟨j0, j1, j2, j3, j4⟩ := HF30.b0.t5; have hr := HR.out; clear HR; subst hr; go_wp2_with fail; exact up_ret rfl h0 HF30.out (fun w => results_tmp rfl _ _ _) (fun w hq => ⟨⟨rfl, hi29⟩, hq⟩)
            · (try simp only [NM, reduceIte, bt_n] at HR); go_wp2_with fail
              with_reducible refine HF28.bind HAp.out HB.out HR.out HO.out ?_ ?_
              · rintro s9 w9 rfl hq9; go_wp2_with fail; exact up_no rfl h0 hq9 (fun w hq => ⟨rfl, hq⟩)
              rintro a32 s32 e w32 ⟨rfl, hi32⟩ HF33 hr; unfold kidC; clear j0 j1 j2 j3 j4; clear HR; have HR := Lib.hid hr; clear hr; obtain ⟨t34, HT34⟩ := hidE (tokT c s32); (try simp only [NM, reduceIte, HT34.out, bt_n] at HR); obtain ⟨j0, j1, j2, j3, j4⟩ := HF33.b1.t5; (go_wp2_with (at_builtin; (refine (HF33.kid1 99 a32 hi32).wpl_app rfl 4 (List.mem_cons_of_mem _ List.mem_cons_self) _ _ rfl rfl List.mem_cons_self hi32 rfl (by (try simp only [List.length_append, List.length_nil, List.length_cons]); omega) (L' := [.box 3 b8 59 (TC t5)]) (by simp [Loc.key]) ?_); intro v35 w35 HF36)); obtain ⟨A35, N35, cp35, hv35, hN35⟩ := own_form2 HF36.r0; subst hv35; clear j0 j1 j2 j3 j4; obtain ⟨j0, j1, j2, j3, j4⟩ := HF36.b1.t5; go_wp2_with fail
              with_reducible refine (HF36.tok).mono ?_
              rintro e w37 ⟨rfl, HF38⟩; rw [HT34.out]; clear j0 j1 j2 j3 j4; obtain ⟨j0, j1, j2, j3, j4⟩ := HF38.b1.t5; clear j0 j1 j2 j3 j4; go_wp2_with fail; go_roundg m20
              case measure => omega
              case rel => exact ⟨s32, (l20 ++ [a32]), HF38.sub (L' := [.row 4 (.slice A35 N35 cp35) (l20 ++ [a32]), .box 3 b8 59 (TC t5)]) (by simp), by (try simp only [List.length_append, List.length_nil, List.length_cons]); omega, HR.out, by rw [HT34.out]⟩
          · simp only [NB] at nq26; (try simp only [NM, reduceIte, bt_n] at HR); go_wp2_with fail
            with_reducible refine HF22.bind HAp.out HB.out HR.out HO.out ?_ ?_
            · rintro s9 w9 rfl hq9; go_wp2_with fail; exact up_no rfl h0 hq9 (fun w hq => ⟨rfl, hq⟩)
            rintro a39 s39 e w39 ⟨rfl, hi39⟩ HF40 hr; unfold kidC; clear j0 j1 j2 j3 j4; clear HR; have HR := Lib.hid hr; clear hr; obtain ⟨t41, HT41⟩ := hidE (tokT c s39); (try simp only [NM, reduceIte, HT41.out, bt_n] at HR); obtain ⟨j0, j1, j2, j3, j4⟩ := HF40.b1.t5; (go_wp2_with (at_builtin; (refine (HF40.kid1 99 a39 hi39).wpl_app rfl 4 (List.mem_cons_of_mem _ List.mem_cons_self) _ _ rfl rfl List.mem_cons_self hi39 rfl (by (try simp only [List.length_append, List.length_nil, List.length_cons]); omega) (L' := [.box 3 b8 59 (TC t5)]) (by simp [Loc.key]) ?_); intro v42 w42 HF43)); obtain ⟨A42, N42, cp42, hv42, hN42⟩ := own_form2 HF43.r0; subst hv42; clear j0 j1 j2 j3 j4; obtain ⟨j0, j1, j2, j3, j4⟩ := HF43.b1.t5; go_wp2_with fail
            with_reducible refine (HF43.tok).mono ?_
            rintro e w44 ⟨rfl, HF45⟩; rw [HT41.out]; clear j0 j1 j2 j3 j4; obtain ⟨j0, j1, j2, j3, j4⟩ := HF45.b1.t5; clear j0 j1 j2 j3 j4; go_wp2_with fail; go_roundg m20
            case measure => omega
            case rel => exact ⟨s39, (l20 ++ [a39]), HF45.sub (L' := [.row 4 (.slice A42 N42 cp42) (l20 ++ [a39]), .box 3 b8 59 (TC t5)]) (by simp), by (try simp only [List.length_append, List.length_nil, List.length_cons]); omega, HR.out, by rw [HT41.out]⟩
        · simp only [NB] at nq25; (try simp only [NM, reduceIte, bt_n] at HR); go_wp2_with fail
          with_reducible refine HF22.bind HAp.out HB.out HR.out HO.out ?_ ?_
          · rintro s9 w9 rfl hq9; go_wp2_with fail; exact up_no rfl h0 hq9 (fun w hq => ⟨rfl, hq⟩)
          rintro a46 s46 e w46 ⟨rfl, hi46⟩ HF47 hr; unfold kidC; clear j0 j1 j2 j3 j4; clear HR; have HR := Lib.hid hr; clear hr; obtain ⟨t48, HT48⟩ := hidE (tokT c s46); (try simp only [NM, reduceIte, HT48.out, bt_n] at HR); obtain ⟨j0, j1, j2, j3, j4⟩ := HF47.b1.t5; (go_wp2_with (at_builtin; (refine (HF47.kid1 99 a46 hi46).wpl_app rfl 4 (List.mem_cons_of_mem _ List.mem_cons_self) _ _ rfl rfl List.mem_cons_self hi46 rfl (by (try simp only [List.length_append, List.length_nil, List.length_cons]); omega) (L' := [.box 3 b8 59 (TC t5)]) (by simp [Loc.key]) ?_); intro v49 w49 HF50)); obtain ⟨A49, N49, cp49, hv49, hN49⟩ := own_form2 HF50.r0; subst hv49; clear j0 j1 j2 j3 j4; obtain ⟨j0, j1, j2, j3, j4⟩ := HF50.b1.t5; go_wp2_with fail
          with_reducible refine (HF50.tok).mono ?_
          rintro e w51 ⟨rfl, HF52⟩; rw [HT48.out]; clear j0 j1 j2 j3 j4; obtain ⟨j0, j1, j2, j3, j4⟩ := HF52.b1.t5; clear j0 j1 j2 j3 j4; go_wp2_with fail; go_roundg m20
          case measure => omega
          case rel => exact ⟨s46, (l20 ++ [a46]), HF52.sub (L' := [.row 4 (.slice A49 N49 cp49) (l20 ++ [a46]), .box 3 b8 59 (TC t5)]) (by simp), by (try simp only [List.length_append, List.length_nil, List.length_cons]); omega, HR.out, by rw [HT48.out]⟩
      · simp only [NB] at nq24; (try simp only [NM, reduceIte, bt_n] at HR); go_wp2_with fail
        with_reducible refine HF22.bind HAp.out HB.out HR.out HO.out ?_ ?_
        · rintro s9 w9 rfl hq9; go_wp2_with fail; exact up_no rfl h0 hq9 (fun w hq => ⟨rfl, hq⟩)
        rintro a53 s53 e w53 ⟨rfl, hi53⟩ HF54 hr; unfold kidC; clear j0 j1 j2 j3 j4; clear HR; have HR := Lib.hid hr; clear hr; obtain ⟨t55, HT55⟩ := hidE (tokT c s53); (try simp only [NM, reduceIte, HT55.out, bt_n] at HR); obtain ⟨j0, j1, j2, j3, j4⟩ := HF54.b1.t5; (go_wp2_with (at_builtin; (refine (HF54.kid1 99 a53 hi53).wpl_app rfl 4 (List.mem_cons_of_mem _ List.mem_cons_self) _ _ rfl rfl List.mem_cons_self hi53 rfl (by (try simp only [List.length_append, List.length_nil, List.length_cons]); omega) (L' := [.box 3 b8 59 (TC t5)]) (by simp [Loc.key]) ?_); intro v56 w56 HF57)); obtain ⟨A56, N56, cp56, hv56, hN56⟩ := own_form2 HF57.r0; subst hv56; clear j0 j1 j2 j3 j4; obtain ⟨j0, j1, j2, j3, j4⟩ := HF57.b1.t5; go_wp2_with fail
        with_reducible refine (HF57.tok).mono ?_
        rintro e w58 ⟨rfl, HF59⟩; rw [HT55.out]; clear j0 j1 j2 j3 j4; obtain ⟨j0, j1, j2, j3, j4⟩ := HF59.b1.t5; clear j0 j1 j2 j3 j4; go_wp2_with fail; go_roundg m20
        case measure => omega
        case rel => exact ⟨s53, (l20 ++ [a53]), HF59.sub (L' := [.row 4 (.slice A56 N56 cp56) (l20 ++ [a53]), .box 3 b8 59 (TC t5)]) (by simp), by (try simp only [List.length_append, List.length_nil, List.length_cons]); omega, HR.out, by rw [HT55.out]⟩
theorem pats_any (hS : TokSt c.l) : ∀ n, n ≤ 1000000 → PtAt c n
  | 0, _ => ⟨fun _ _ _ _ _ _ _ _ _ _ h => absurd rfl h, fun _ _ _ _ _ _ _ _ _ _ h => absurd rfl h⟩
  | n + 1, hn => have IH := pats_any hS n (by omega); ⟨pattern_step hS n (by omega) IH, apat_step hS n (by omega) IH⟩
end
end Go.Proofs.YtcjoapmodaioiaaGreatDoor
end

section
set_option linter.unusedVariables false
set_option linter.unusedSimpArgs false
namespace Go.Proofs.YtcjoapmodaioiaaGreatDoor
open Go.RowKit Go.Shelf Pa
set_option maxRecDepth 100000
set_option maxHeartbeats 8000000

section
variable {c : Cx}
theorem block_any (hS : TokSt c.l) (n : Nat) (hn : n ≤ 1000000) (F : Nat) (hE : ∀ (args : Array Value) (w : World), (callFunc F args).run Tryz.prog w = .ok (.enter F args) w) (item : Pm Nat) (M : Meth c F #[.pointer (some ⟨c.bp, 0, none⟩)] item vNum) : MethR c 124 #[.pointer (some ⟨c.bp, 0, none⟩), .func (.func F) #[.pointer (some ⟨c.bp, 0, none⟩)] #[]] (block (c.l.map Tok.bt) n item) := by
  (refine MethR.mk fun E s0 r W HF1 hb hr ho => ?_); have HN := Lib.hid (next_any hS); (have HK := Lib.hid (fun k => kind_any hS k)); (have HWt := Lib.hid (fun k x => want_any hS k x)); have HPm := Lib.hid (param_any hS); have HIt := Lib.hid M; have eF := hE; have HB := Lib.hid hb; have HO := Lib.hid ho; clear hb ho; have HR := Lib.hid hr; clear hr; obtain ⟨t2, HT2⟩ := hidE (tokT c s0); have hr := HR.out; clear HR; unfold block at hr; have HR := Lib.hid hr; clear hr; (try simp only [NM, reduceIte, HT2.out, bt_n] at HR); have fld0 := fldT0; have fld1 := fldT1; have fld2 := fldT2; go_enter Tryz.func124, Tryz.ntmps124; obtain ⟨q3, hq3⟩ : ∃ q, isB t2.bt 5 ⟨#[123]⟩ = q := ⟨_, rfl⟩; have HI3 := Lib.hid (HF1.is 5 ⟨#[123]⟩); rw [HT2.out, hq3] at HI3; (try simp only [NM, reduceIte, hq3, bt_n] at HR); clear hq3; go_wp2_with fail
  with_reducible refine HI3.out.mono ?_
  rintro e w3 ⟨rfl, HF4⟩; cases q3
  · (try simp only [NM, reduceIte, bt_n] at HR); go_wp2_with fail
    with_reducible refine HF4.bind (HK.out 6) HB.out HR.out HO.out ?_ ?_
    · rintro s9 w9 rfl hq9; go_wp2_with fail; exact ⟨rfl, rfl, hq9.sub (by simp)⟩
    rintro a5 s5 e w5 ⟨u5, rfl, rfl, hwf5⟩ HF6 hr; clear HR; have HR := Lib.hid hr; clear hr; obtain ⟨t7, HT7⟩ := hidE (tokT c s5); (try simp only [NM, reduceIte, HT7.out, bt_n] at HR); have HF8 := HF6.nil 7; have hr := HR.out; clear HR; obtain ⟨F9, g9, hFF9, hGG9, hr⟩ := split_loop (to_bind hr); have HFF9 := Lib.hid hFF9; have HGG9 := Lib.hid hGG9; have HR := Lib.hid hr; clear hr hFF9 hGG9; (have HF10 := HF8.sub (L' := [.row 7 (.slice none 0 0) []]) (by simp)); clear HF8; go_wp2_with fail; go_loopg [7] n (fun gk x7 wr => ∃ (s5 : Ps) (l5 : List Nat), Fr c E 0 [.row 7 x7 l5] s5 wr ∧ l5.length + gk ≤ 1000000 ∧ Hid ((loop F9 gk l5 >>= g9) s5 = r))
    case atStart => exact ⟨s5, [], HF10.out, by (try simp only [List.length_nil, List.length_cons]); omega, HR.out⟩
    case round =>
      obtain ⟨w9, rfl⟩ : ∃ w, w = wr := ⟨_, rfl⟩; clear HR HF10; obtain ⟨s9, l9, HF11, hl9, hr⟩ := hrel; obtain ⟨A9, cp9, hv9, _⟩ := own_formP HF11.r0; subst hv9; obtain _ | m9 := gk
      · exact absurd (loop_zero hr.out) HO.out
      have HR := Lib.hid (loop_step hr.out HFF9.out); clear hr; obtain ⟨t12, HT12⟩ := hidE (tokT c s9); (try simp only [NM, reduceIte, HT12.out, bt_n] at HR); (try simp only [NM, reduceIte, Pa.semis, bt_n] at HR); have hr := HR.out; clear HR; obtain ⟨F13, g13, hFF13, hGG13, hr⟩ := split_loop hr; have HFF13 := Lib.hid hFF13; have HGG13 := Lib.hid hGG13; have HR := Lib.hid hr; clear hr hFF13 hGG13; (have HF14 := HF11.sub (L' := [.row 7 (.slice A9 l9.length cp9) l9]) (by simp)); clear HF11; go_wp2_with fail; go_loopg [] n (fun gk wr => ∃ (s5 : Ps), Fr c E 0 [.row 7 (.slice A9 l9.length cp9) l9] s5 wr ∧ Hid ((loop F13 gk () >>= g13) s5 = r))
      case atStart => exact ⟨s9, HF14.out, HR.out⟩
      case round =>
        obtain ⟨w13, rfl⟩ : ∃ w, w = wr := ⟨_, rfl⟩; clear HR HF14; obtain ⟨s13, HF15, hr⟩ := hrel; obtain _ | m13 := gk
        · exact absurd (loop_zero hr.out) HO.out
        have HR := Lib.hid (loop_step hr.out HFF13.out); clear hr; obtain ⟨t16, HT16⟩ := hidE (tokT c s13); (try simp only [NM, reduceIte, HT16.out, bt_n] at HR); go_wp2_with fail
        with_reducible refine (HF15.tok).mono ?_
        rintro e w17 ⟨rfl, HF18⟩; rw [HT16.out]; obtain ⟨q19, eq19⟩ : ∃ q, (t16.bt.kind == 8) = q := ⟨_, rfl⟩; (try simp only [NM, reduceIte, eq19, bt_n] at HR); have hq19 : (t16.kind == 8) = q19 := eq19; (have nq19 : (t16.kind != 8) = !q19 := by rw [bne, hq19]); clear eq19; cases q19
        · simp only [NB] at nq19; (try simp only [NM, reduceIte, bt_n] at HR); obtain ⟨q20, hq20⟩ : ∃ q, isB t16.bt 5 ⟨#[59]⟩ = q := ⟨_, rfl⟩; have HI20 := Lib.hid (HF18.is 5 ⟨#[59]⟩); rw [HT16.out, hq20] at HI20; (try simp only [NM, reduceIte, hq20, bt_n] at HR); clear hq20; go_wp2_with fail
          with_reducible refine HI20.out.mono ?_
          rintro e w20 ⟨rfl, HF21⟩; cases q20
          · (try simp only [NM, reduceIte, bt_n] at HR); (try simp only [NM, reduceIte, HGG13.out, bt_n] at HR); (try simp only [NM, reduceIte, HT16.out, bt_n] at HR); go_wp2_with fail
            with_reducible refine (HF21.tok).mono ?_
            rintro e w22 ⟨rfl, HF23⟩; rw [HT16.out]; go_upto_region 9 with (fail); obtain ⟨b24, w24, hb24, hw24, HF25⟩ := HF23.boxT 8 t16; rw [hw24, hb24]; clear hw24 hb24; obtain ⟨j0, j1, j2, j3, j4⟩ := HF25.b0.t5; obtain ⟨q26, eq26⟩ : ∃ q, (t16.bt.kind == 7) = q := ⟨_, rfl⟩; (try simp only [NM, reduceIte, eq26, bt_n] at HR); have hq26 : (t16.kind == 7) = q26 := eq26; (have nq26 : (t16.kind != 7) = !q26 := by rw [bne, hq26]); clear eq26; cases q26
            · simp only [NB] at nq26; (try simp only [NM, reduceIte, bt_n] at HR); go_wp2_with fail
              with_reducible refine HF25.bind HIt.out HB.out HR.out HO.out ?_ ?_
              · rintro s9 w9 rfl hq9; go_wp2_with fail; exact ⟨rfl, rfl, hq9.sub (by simp)⟩
              rintro a27 s27 e w27 ⟨rfl, hi27⟩ HF28 hr; unfold kidC; clear j0 j1 j2 j3 j4; clear HR; have HR := Lib.hid hr; clear hr; obtain ⟨t29, HT29⟩ := hidE (tokT c s27); (try simp only [NM, reduceIte, HT29.out, bt_n] at HR); obtain ⟨j0, j1, j2, j3, j4⟩ := HF28.b0.t5; (go_wp2_with (at_builtin; (refine (HF28.kid1 99 a27 hi27).wpl_app rfl 7 (List.mem_cons_of_mem _ (List.mem_cons_of_mem _ List.mem_cons_self)) _ _ rfl rfl List.mem_cons_self hi27 rfl (by (try simp only [List.length_append, List.length_nil, List.length_cons]); omega) (L' := [.box 8 b24 59 (TC t16)]) (by simp [Loc.key]) ?_); intro v30 w30 HF31)); obtain ⟨A30, N30, cp30, hv30, hN30⟩ := own_form2 HF31.r0; subst hv30; clear j0 j1 j2 j3 j4; obtain ⟨j0, j1, j2, j3, j4⟩ := HF31.b1.t5; go_wp2_with fail
              with_reducible refine (HF31.tok).mono ?_
              rintro e w32 ⟨rfl, HF33⟩; rw [HT29.out]; clear j0 j1 j2 j3 j4; obtain ⟨j0, j1, j2, j3, j4⟩ := HF33.b1.t5; go_upto_region 14 with (fail); obtain ⟨b34, w34, hb34, hw34, HF35⟩ := HF33.boxT 9 t29; rw [hw34, hb34]; clear hw34 hb34; clear j0 j1 j2 j3 j4; obtain ⟨j5, j6, j7, j8, j9⟩ := HF35.b0.t5; obtain ⟨j0, j1, j2, j3, j4⟩ := HF35.b2.t5; obtain ⟨q36, eq36⟩ : ∃ q, (t29.bt.kind == 8) = q := ⟨_, rfl⟩; (try simp only [NM, reduceIte, eq36, bt_n] at HR); have hq36 : (t29.kind == 8) = q36 := eq36; (have nq36 : (t29.kind != 8) = !q36 := by rw [bne, hq36]); clear eq36; cases q36
              · simp only [NB] at nq36; (try simp only [NM, reduceIte, bt_n] at HR); obtain ⟨q37, eq37⟩ : ∃ q, (t29.bt.kind == 7) = q := ⟨_, rfl⟩; (try simp only [NM, reduceIte, eq37, bt_n] at HR); have hq37 : (t29.kind == 7) = q37 := eq37; (have nq37 : (t29.kind != 7) = !q37 := by rw [bne, hq37]); clear eq37; cases q37
                · simp only [NB] at nq37; (try simp only [NM, reduceIte, bt_n] at HR); obtain ⟨q38, hq38⟩ : ∃ q, isB t29.bt 5 ⟨#[59]⟩ = q := ⟨_, rfl⟩; have HI38 := Lib.hid (HF35.is 5 ⟨#[59]⟩); rw [HT29.out, hq38] at HI38; (try simp only [NM, reduceIte, hq38, bt_n] at HR); clear hq38; go_wp2_with fail
                  with_reducible refine HI38.out.mono ?_
                  rintro e w38 ⟨rfl, HF39⟩; clear j5 j6 j7 j8 j9 j0 j1 j2 j3 j4; obtain ⟨j5, j6, j7, j8, j9⟩ := HF39.b0.t5; obtain ⟨j0, j1, j2, j3, j4⟩ := HF39.b2.t5; cases q38
                  · (try simp only [NM, reduceIte, bt_n] at HR); obtain ⟨q40, hq40⟩ : ∃ q, isB t29.bt 5 ⟨#[125]⟩ = q := ⟨_, rfl⟩; have HI40 := Lib.hid (HF39.is 5 ⟨#[125]⟩); rw [HT29.out, hq40] at HI40; (try simp only [NM, reduceIte, hq40, bt_n] at HR); clear hq40; go_wp2_with fail
                    with_reducible refine HI40.out.mono ?_
                    rintro e w40 ⟨rfl, HF41⟩; clear j5 j6 j7 j8 j9 j0 j1 j2 j3 j4; obtain ⟨j5, j6, j7, j8, j9⟩ := HF41.b0.t5; obtain ⟨j0, j1, j2, j3, j4⟩ := HF41.b2.t5; cases q40
                    · (try simp only [NM, reduceIte, bt_n] at HR); go_wp2_with fail
                      with_reducible refine (HF41.fail' 5 HB.out).mono ?_
                      rintro e w42 ⟨rfl, hq⟩; have hq := Lib.hid hq; have hr := HR.out; clear HR; subst hr; clear j5 j6 j7 j8 j9 j0 j1 j2 j3 j4; go_wp2_with fail; exact ⟨rfl, rfl, hq.out.sub (by simp)⟩
                    · (try simp only [NM, reduceIte, bt_n] at HR); go_wp2_with fail; go_roundg m9
                      case measure => omega
                      case rel => exact ⟨s27, (l9 ++ [a27]), HF41.sub (L' := [.row 7 (.slice A30 N30 cp30) (l9 ++ [a27])]) (by simp), by (try simp only [List.length_append, List.length_nil, List.length_cons]); omega, HR.out⟩
                  · (try simp only [NM, reduceIte, bt_n] at HR); go_wp2_with fail; go_roundg m9
                    case measure => omega
                    case rel => exact ⟨s27, (l9 ++ [a27]), HF39.sub (L' := [.row 7 (.slice A30 N30 cp30) (l9 ++ [a27])]) (by simp), by (try simp only [List.length_append, List.length_nil, List.length_cons]); omega, HR.out⟩
                · simp only [NB] at nq37; (try simp only [NM, reduceIte, bt_n] at HR); go_wp2_with fail; go_roundg m9
                  case measure => omega
                  case rel => exact ⟨s27, (l9 ++ [a27]), HF35.sub (L' := [.row 7 (.slice A30 N30 cp30) (l9 ++ [a27])]) (by simp), by (try simp only [List.length_append, List.length_nil, List.length_cons]); omega, HR.out⟩
              · simp only [NB] at nq36; (try simp only [NM, reduceIte, bt_n] at HR); go_wp2_with fail; go_roundg m9
                case measure => omega
                case rel => exact ⟨s27, (l9 ++ [a27]), HF35.sub (L' := [.row 7 (.slice A30 N30 cp30) (l9 ++ [a27])]) (by simp), by (try simp only [List.length_append, List.length_nil, List.length_cons]); omega, HR.out⟩
            · simp only [NB] at nq26; (try simp only [NM, reduceIte, bt_n] at HR); go_wp2_with fail
              with_reducible refine HF25.bind HN.out HB.out HR.out HO.out ?_ ?_
              · rintro s9 w9 rfl hq9; go_wp2_with fail; exact ⟨rfl, rfl, hq9.sub (by simp)⟩
              rintro a43 s43 e w43 ⟨u43, rfl, rfl, hwf43⟩ HF44 hr; clear j0 j1 j2 j3 j4; clear HR; have HR := Lib.hid hr; clear hr; obtain ⟨t45, HT45⟩ := hidE (tokT c s43); (try simp only [NM, reduceIte, HT45.out, bt_n] at HR); obtain ⟨j0, j1, j2, j3, j4⟩ := HF44.b0.t5; (try simp only [NM, reduceIte, HGG9.out, bt_n] at HR); (try simp only [NM, reduceIte, HT45.out, bt_n] at HR); have hr := HR.out; clear HR; subst hr; go_wp2_with fail; go_ret; exact ⟨_, rfl, by omega, Fr.renum (Fr.sub HF44.out (L' := [.row 7 (.slice A9 l9.length cp9) l9]) (by simp))⟩
          · (try simp only [NM, reduceIte, bt_n] at HR); go_wp2_with fail
            with_reducible refine HF21.bind HN.out HB.out HR.out HO.out ?_ ?_
            · rintro s9 w9 rfl hq9; go_wp2_with fail; exact ⟨rfl, rfl, hq9.sub (by simp)⟩
            rintro a46 s46 e w46 ⟨u46, rfl, rfl, hwf46⟩ HF47 hr; clear HR; have HR := Lib.hid hr; clear hr; obtain ⟨t48, HT48⟩ := hidE (tokT c s46); (try simp only [NM, reduceIte, HT48.out, bt_n] at HR); go_wp2_with fail; go_roundg m13
            case measure => omega
            case rel => exact ⟨s46, HF47.sub (L' := [.row 7 (.slice A9 l9.length cp9) l9]) (by simp), HR.out⟩
        · simp only [NB] at nq19; (try simp only [NM, reduceIte, bt_n] at HR); go_wp2_with fail
          with_reducible refine HF18.bind HN.out HB.out HR.out HO.out ?_ ?_
          · rintro s9 w9 rfl hq9; go_wp2_with fail; exact ⟨rfl, rfl, hq9.sub (by simp)⟩
          rintro a49 s49 e w49 ⟨u49, rfl, rfl, hwf49⟩ HF50 hr; clear HR; have HR := Lib.hid hr; clear hr; obtain ⟨t51, HT51⟩ := hidE (tokT c s49); (try simp only [NM, reduceIte, HT51.out, bt_n] at HR); go_wp2_with fail; go_roundg m13
          case measure => omega
          case rel => exact ⟨s49, HF50.sub (L' := [.row 7 (.slice A9 l9.length cp9) l9]) (by simp), HR.out⟩
  · (try simp only [NM, reduceIte, bt_n] at HR); go_wp2_with fail
    with_reducible refine HF4.bind (HK.out 5) HB.out HR.out HO.out ?_ ?_
    · rintro s9 w9 rfl hq9; go_wp2_with fail; exact ⟨rfl, rfl, hq9.sub (by simp)⟩
    rintro a52 s52 e w52 ⟨u52, rfl, rfl, hwf52⟩ HF53 hr; clear HR; have HR := Lib.hid hr; clear hr; obtain ⟨t54, HT54⟩ := hidE (tokT c s52); (try simp only [NM, reduceIte, HT54.out, bt_n] at HR); have HF55 := HF53.nil 7; have hr := HR.out; clear HR; obtain ⟨F56, g56, hFF56, hGG56, hr⟩ := split_loop (to_bind hr); have HFF56 := Lib.hid hFF56; have HGG56 := Lib.hid hGG56; have HR := Lib.hid hr; clear hr hFF56 hGG56; (have HF57 := HF55.sub (L' := [.row 7 (.slice none 0 0) []]) (by simp)); clear HF55; go_wp2_with fail; go_loopg [7] n (fun gk x7 wr => ∃ (s5 : Ps) (l5 : List Nat), Fr c E 0 [.row 7 x7 l5] s5 wr ∧ l5.length + gk ≤ 1000000 ∧ Hid ((loop F56 gk l5 >>= g56) s5 = r))
    case atStart => exact ⟨s52, [], HF57.out, by (try simp only [List.length_nil, List.length_cons]); omega, HR.out⟩
    case round =>
      obtain ⟨w56, rfl⟩ : ∃ w, w = wr := ⟨_, rfl⟩; clear HR HF57; obtain ⟨s56, l56, HF58, hl56, hr⟩ := hrel; obtain ⟨A56, cp56, hv56, _⟩ := own_formP HF58.r0; subst hv56; obtain _ | m56 := gk
      · exact absurd (loop_zero hr.out) HO.out
      have HR := Lib.hid (loop_step hr.out HFF56.out); clear hr; obtain ⟨t59, HT59⟩ := hidE (tokT c s56); (try simp only [NM, reduceIte, HT59.out, bt_n] at HR); (try simp only [NM, reduceIte, Pa.semis, bt_n] at HR); have hr := HR.out; clear HR; obtain ⟨F60, g60, hFF60, hGG60, hr⟩ := split_loop hr; have HFF60 := Lib.hid hFF60; have HGG60 := Lib.hid hGG60; have HR := Lib.hid hr; clear hr hFF60 hGG60; (have HF61 := HF58.sub (L' := [.row 7 (.slice A56 l56.length cp56) l56]) (by simp)); clear HF58; go_wp2_with fail; go_loopg [] n (fun gk wr => ∃ (s5 : Ps), Fr c E 0 [.row 7 (.slice A56 l56.length cp56) l56] s5 wr ∧ Hid ((loop F60 gk () >>= g60) s5 = r))
      case atStart => exact ⟨s56, HF61.out, HR.out⟩
      case round =>
        obtain ⟨w60, rfl⟩ : ∃ w, w = wr := ⟨_, rfl⟩; clear HR HF61; obtain ⟨s60, HF62, hr⟩ := hrel; obtain _ | m60 := gk
        · exact absurd (loop_zero hr.out) HO.out
        have HR := Lib.hid (loop_step hr.out HFF60.out); clear hr; obtain ⟨t63, HT63⟩ := hidE (tokT c s60); (try simp only [NM, reduceIte, HT63.out, bt_n] at HR); go_wp2_with fail
        with_reducible refine (HF62.tok).mono ?_
        rintro e w64 ⟨rfl, HF65⟩; rw [HT63.out]; obtain ⟨q66, eq66⟩ : ∃ q, (t63.bt.kind == 8) = q := ⟨_, rfl⟩; (try simp only [NM, reduceIte, eq66, bt_n] at HR); have hq66 : (t63.kind == 8) = q66 := eq66; (have nq66 : (t63.kind != 8) = !q66 := by rw [bne, hq66]); clear eq66; cases q66
        · simp only [NB] at nq66; (try simp only [NM, reduceIte, bt_n] at HR); obtain ⟨q67, hq67⟩ : ∃ q, isB t63.bt 5 ⟨#[59]⟩ = q := ⟨_, rfl⟩; have HI67 := Lib.hid (HF65.is 5 ⟨#[59]⟩); rw [HT63.out, hq67] at HI67; (try simp only [NM, reduceIte, hq67, bt_n] at HR); clear hq67; go_wp2_with fail
          with_reducible refine HI67.out.mono ?_
          rintro e w67 ⟨rfl, HF68⟩; cases q67
          · (try simp only [NM, reduceIte, bt_n] at HR); (try simp only [NM, reduceIte, HGG60.out, bt_n] at HR); (try simp only [NM, reduceIte, HT63.out, bt_n] at HR); go_wp2_with fail
            with_reducible refine (HF68.tok).mono ?_
            rintro e w69 ⟨rfl, HF70⟩; rw [HT63.out]; go_upto_region 9 with (fail); obtain ⟨b71, w71, hb71, hw71, HF72⟩ := HF70.boxT 8 t63; rw [hw71, hb71]; clear hw71 hb71; obtain ⟨j0, j1, j2, j3, j4⟩ := HF72.b0.t5; obtain ⟨q73, eq73⟩ : ∃ q, (t63.bt.kind == 5) = q := ⟨_, rfl⟩; (try simp only [NM, reduceIte, eq73, bt_n] at HR); have hq73 : (t63.kind == 5) = q73 := eq73; (have nq73 : (t63.kind != 5) = !q73 := by rw [bne, hq73]); clear eq73; cases q73
            · simp only [NB] at nq73; (try simp only [NM, reduceIte, bt_n] at HR); go_wp2_with fail
              with_reducible refine HF72.bind HIt.out HB.out HR.out HO.out ?_ ?_
              · rintro s9 w9 rfl hq9; go_wp2_with fail; exact ⟨rfl, rfl, hq9.sub (by simp)⟩
              rintro a74 s74 e w74 ⟨rfl, hi74⟩ HF75 hr; unfold kidC; clear j0 j1 j2 j3 j4; clear HR; have HR := Lib.hid hr; clear hr; obtain ⟨t76, HT76⟩ := hidE (tokT c s74); (try simp only [NM, reduceIte, HT76.out, bt_n] at HR); obtain ⟨j0, j1, j2, j3, j4⟩ := HF75.b0.t5; (go_wp2_with (at_builtin; (refine (HF75.kid1 99 a74 hi74).wpl_app rfl 7 (List.mem_cons_of_mem _ (List.mem_cons_of_mem _ List.mem_cons_self)) _ _ rfl rfl List.mem_cons_self hi74 rfl (by (try simp only [List.length_append, List.length_nil, List.length_cons]); omega) (L' := [.box 8 b71 59 (TC t63)]) (by simp [Loc.key]) ?_); intro v77 w77 HF78)); obtain ⟨A77, N77, cp77, hv77, hN77⟩ := own_form2 HF78.r0; subst hv77; clear j0 j1 j2 j3 j4; obtain ⟨j0, j1, j2, j3, j4⟩ := HF78.b1.t5; go_wp2_with fail
              with_reducible refine (HF78.tok).mono ?_
              rintro e w79 ⟨rfl, HF80⟩; rw [HT76.out]; clear j0 j1 j2 j3 j4; obtain ⟨j0, j1, j2, j3, j4⟩ := HF80.b1.t5; go_upto_region 14 with (fail); obtain ⟨b81, w81, hb81, hw81, HF82⟩ := HF80.boxT 9 t76; rw [hw81, hb81]; clear hw81 hb81; clear j0 j1 j2 j3 j4; obtain ⟨j5, j6, j7, j8, j9⟩ := HF82.b0.t5; obtain ⟨j0, j1, j2, j3, j4⟩ := HF82.b2.t5; obtain ⟨q83, eq83⟩ : ∃ q, (t76.bt.kind == 8) = q := ⟨_, rfl⟩; (try simp only [NM, reduceIte, eq83, bt_n] at HR); have hq83 : (t76.kind == 8) = q83 := eq83; (have nq83 : (t76.kind != 8) = !q83 := by rw [bne, hq83]); clear eq83; cases q83
              · simp only [NB] at nq83; (try simp only [NM, reduceIte, bt_n] at HR); obtain ⟨q84, eq84⟩ : ∃ q, (t76.bt.kind == 7) = q := ⟨_, rfl⟩; (try simp only [NM, reduceIte, eq84, bt_n] at HR); have hq84 : (t76.kind == 7) = q84 := eq84; (have nq84 : (t76.kind != 7) = !q84 := by rw [bne, hq84]); clear eq84; cases q84
                · simp only [NB] at nq84; (try simp only [NM, reduceIte, bt_n] at HR); obtain ⟨q85, hq85⟩ : ∃ q, isB t76.bt 5 ⟨#[59]⟩ = q := ⟨_, rfl⟩; have HI85 := Lib.hid (HF82.is 5 ⟨#[59]⟩); rw [HT76.out, hq85] at HI85; (try simp only [NM, reduceIte, hq85, bt_n] at HR); clear hq85; go_wp2_with fail
                  with_reducible refine HI85.out.mono ?_
                  rintro e w85 ⟨rfl, HF86⟩; clear j5 j6 j7 j8 j9 j0 j1 j2 j3 j4; obtain ⟨j5, j6, j7, j8, j9⟩ := HF86.b0.t5; obtain ⟨j0, j1, j2, j3, j4⟩ := HF86.b2.t5; cases q85
                  · (try simp only [NM, reduceIte, bt_n] at HR); obtain ⟨q87, hq87⟩ : ∃ q, isB t76.bt 5 ⟨#[125]⟩ = q := ⟨_, rfl⟩; have HI87 := Lib.hid (HF86.is 5 ⟨#[125]⟩); rw [HT76.out, hq87] at HI87; (try simp only [NM, reduceIte, hq87, bt_n] at HR); clear hq87; go_wp2_with fail
                    with_reducible refine HI87.out.mono ?_
                    rintro e w87 ⟨rfl, HF88⟩; clear j5 j6 j7 j8 j9 j0 j1 j2 j3 j4; obtain ⟨j5, j6, j7, j8, j9⟩ := HF88.b0.t5; obtain ⟨j0, j1, j2, j3, j4⟩ := HF88.b2.t5; cases q87
                    · (try simp only [NM, reduceIte, bt_n] at HR); go_wp2_with fail
                      with_reducible refine (HF88.fail' 5 HB.out).mono ?_
                      rintro e w89 ⟨rfl, hq⟩; have hq := Lib.hid hq; have hr := HR.out; clear HR; subst hr; clear j5 j6 j7 j8 j9 j0 j1 j2 j3 j4; go_wp2_with fail; exact ⟨rfl, rfl, hq.out.sub (by simp)⟩
                    · (try simp only [NM, reduceIte, bt_n] at HR); go_wp2_with fail; go_roundg m56
                      case measure => omega
                      case rel => exact ⟨s74, (l56 ++ [a74]), HF88.sub (L' := [.row 7 (.slice A77 N77 cp77) (l56 ++ [a74])]) (by simp), by (try simp only [List.length_append, List.length_nil, List.length_cons]); omega, HR.out⟩
                  · (try simp only [NM, reduceIte, bt_n] at HR); go_wp2_with fail; go_roundg m56
                    case measure => omega
                    case rel => exact ⟨s74, (l56 ++ [a74]), HF86.sub (L' := [.row 7 (.slice A77 N77 cp77) (l56 ++ [a74])]) (by simp), by (try simp only [List.length_append, List.length_nil, List.length_cons]); omega, HR.out⟩
                · simp only [NB] at nq84; (try simp only [NM, reduceIte, bt_n] at HR); go_wp2_with fail; go_roundg m56
                  case measure => omega
                  case rel => exact ⟨s74, (l56 ++ [a74]), HF82.sub (L' := [.row 7 (.slice A77 N77 cp77) (l56 ++ [a74])]) (by simp), by (try simp only [List.length_append, List.length_nil, List.length_cons]); omega, HR.out⟩
              · simp only [NB] at nq83; (try simp only [NM, reduceIte, bt_n] at HR); go_wp2_with fail; go_roundg m56
                case measure => omega
                case rel => exact ⟨s74, (l56 ++ [a74]), HF82.sub (L' := [.row 7 (.slice A77 N77 cp77) (l56 ++ [a74])]) (by simp), by (try simp only [List.length_append, List.length_nil, List.length_cons]); omega, HR.out⟩
            · simp only [NB] at nq73; (try simp only [NM, reduceIte, bt_n] at HR); obtain ⟨q90, hq90⟩ : ∃ q, isX t63.bt ⟨#[125]⟩ = q := ⟨_, rfl⟩; (have gq90 : (t63.text.toList == [125]) = q90 := by rw [← hq90, isX_eq, show (⟨#[125]⟩ : ByteArray).toList = [125] from by kernel_rfl]); (have nq90 : (t63.text.toList != [125]) = !q90 := by rw [bne, gq90]); (try simp only [NM, reduceIte, hq90, bt_n] at HR); clear hq90; cases q90
              · simp only [NB] at nq90; (try simp only [NM, reduceIte, bt_n] at HR); go_wp2_with fail
                with_reducible refine HF72.bind HIt.out HB.out HR.out HO.out ?_ ?_
                · rintro s9 w9 rfl hq9; go_wp2_with fail; exact ⟨rfl, rfl, hq9.sub (by simp)⟩
                rintro a91 s91 e w91 ⟨rfl, hi91⟩ HF92 hr; unfold kidC; clear j0 j1 j2 j3 j4; clear HR; have HR := Lib.hid hr; clear hr; obtain ⟨t93, HT93⟩ := hidE (tokT c s91); (try simp only [NM, reduceIte, HT93.out, bt_n] at HR); obtain ⟨j0, j1, j2, j3, j4⟩ := HF92.b0.t5; (go_wp2_with (at_builtin; (refine (HF92.kid1 99 a91 hi91).wpl_app rfl 7 (List.mem_cons_of_mem _ (List.mem_cons_of_mem _ List.mem_cons_self)) _ _ rfl rfl List.mem_cons_self hi91 rfl (by (try simp only [List.length_append, List.length_nil, List.length_cons]); omega) (L' := [.box 8 b71 59 (TC t63)]) (by simp [Loc.key]) ?_); intro v94 w94 HF95)); obtain ⟨A94, N94, cp94, hv94, hN94⟩ := own_form2 HF95.r0; subst hv94; clear j0 j1 j2 j3 j4; obtain ⟨j0, j1, j2, j3, j4⟩ := HF95.b1.t5; go_wp2_with fail
                with_reducible refine (HF95.tok).mono ?_
                rintro e w96 ⟨rfl, HF97⟩; rw [HT93.out]; clear j0 j1 j2 j3 j4; obtain ⟨j0, j1, j2, j3, j4⟩ := HF97.b1.t5; go_upto_region 14 with (fail); obtain ⟨b98, w98, hb98, hw98, HF99⟩ := HF97.boxT 9 t93; rw [hw98, hb98]; clear hw98 hb98; clear j0 j1 j2 j3 j4; obtain ⟨j5, j6, j7, j8, j9⟩ := HF99.b0.t5; obtain ⟨j0, j1, j2, j3, j4⟩ := HF99.b2.t5; obtain ⟨q100, eq100⟩ : ∃ q, (t93.bt.kind == 8) = q := ⟨_, rfl⟩; (try simp only [NM, reduceIte, eq100, bt_n] at HR); have hq100 : (t93.kind == 8) = q100 := eq100; (have nq100 : (t93.kind != 8) = !q100 := by rw [bne, hq100]); clear eq100; cases q100
                · simp only [NB] at nq100; (try simp only [NM, reduceIte, bt_n] at HR); obtain ⟨q101, eq101⟩ : ∃ q, (t93.bt.kind == 7) = q := ⟨_, rfl⟩; (try simp only [NM, reduceIte, eq101, bt_n] at HR); have hq101 : (t93.kind == 7) = q101 := eq101; (have nq101 : (t93.kind != 7) = !q101 := by rw [bne, hq101]); clear eq101; cases q101
                  · simp only [NB] at nq101; (try simp only [NM, reduceIte, bt_n] at HR); obtain ⟨q102, hq102⟩ : ∃ q, isB t93.bt 5 ⟨#[59]⟩ = q := ⟨_, rfl⟩; have HI102 := Lib.hid (HF99.is 5 ⟨#[59]⟩); rw [HT93.out, hq102] at HI102; (try simp only [NM, reduceIte, hq102, bt_n] at HR); clear hq102; go_wp2_with fail
                    with_reducible refine HI102.out.mono ?_
                    rintro e w102 ⟨rfl, HF103⟩; clear j5 j6 j7 j8 j9 j0 j1 j2 j3 j4; obtain ⟨j5, j6, j7, j8, j9⟩ := HF103.b0.t5; obtain ⟨j0, j1, j2, j3, j4⟩ := HF103.b2.t5; cases q102
                    · (try simp only [NM, reduceIte, bt_n] at HR); obtain ⟨q104, hq104⟩ : ∃ q, isB t93.bt 5 ⟨#[125]⟩ = q := ⟨_, rfl⟩; have HI104 := Lib.hid (HF103.is 5 ⟨#[125]⟩); rw [HT93.out, hq104] at HI104; (try simp only [NM, reduceIte, hq104, bt_n] at HR); clear hq104; go_wp2_with fail
                      with_reducible refine HI104.out.mono ?_
                      rintro e w104 ⟨rfl, HF105⟩; clear j5 j6 j7 j8 j9 j0 j1 j2 j3 j4; obtain ⟨j5, j6, j7, j8, j9⟩ := HF105.b0.t5; obtain ⟨j0, j1, j2, j3, j4⟩ := HF105.b2.t5; cases q104
                      · (try simp only [NM, reduceIte, bt_n] at HR); go_wp2_with fail
                        with_reducible refine (HF105.fail' 5 HB.out).mono ?_
                        rintro e w106 ⟨rfl, hq⟩; have hq := Lib.hid hq; have hr := HR.out; clear HR; subst hr; clear j5 j6 j7 j8 j9 j0 j1 j2 j3 j4; go_wp2_with fail; exact ⟨rfl, rfl, hq.out.sub (by simp)⟩
                      · (try simp only [NM, reduceIte, bt_n] at HR); go_wp2_with fail; go_roundg m56
                        case measure => omega
                        case rel => exact ⟨s91, (l56 ++ [a91]), HF105.sub (L' := [.row 7 (.slice A94 N94 cp94) (l56 ++ [a91])]) (by simp), by (try simp only [List.length_append, List.length_nil, List.length_cons]); omega, HR.out⟩
                    · (try simp only [NM, reduceIte, bt_n] at HR); go_wp2_with fail; go_roundg m56
                      case measure => omega
                      case rel => exact ⟨s91, (l56 ++ [a91]), HF103.sub (L' := [.row 7 (.slice A94 N94 cp94) (l56 ++ [a91])]) (by simp), by (try simp only [List.length_append, List.length_nil, List.length_cons]); omega, HR.out⟩
                  · simp only [NB] at nq101; (try simp only [NM, reduceIte, bt_n] at HR); go_wp2_with fail; go_roundg m56
                    case measure => omega
                    case rel => exact ⟨s91, (l56 ++ [a91]), HF99.sub (L' := [.row 7 (.slice A94 N94 cp94) (l56 ++ [a91])]) (by simp), by (try simp only [List.length_append, List.length_nil, List.length_cons]); omega, HR.out⟩
                · simp only [NB] at nq100; (try simp only [NM, reduceIte, bt_n] at HR); go_wp2_with fail; go_roundg m56
                  case measure => omega
                  case rel => exact ⟨s91, (l56 ++ [a91]), HF99.sub (L' := [.row 7 (.slice A94 N94 cp94) (l56 ++ [a91])]) (by simp), by (try simp only [List.length_append, List.length_nil, List.length_cons]); omega, HR.out⟩
              · simp only [NB] at nq90; (try simp only [NM, reduceIte, bt_n] at HR); go_wp2_with fail
                with_reducible refine HF72.bind HN.out HB.out HR.out HO.out ?_ ?_
                · rintro s9 w9 rfl hq9; go_wp2_with fail; exact ⟨rfl, rfl, hq9.sub (by simp)⟩
                rintro a107 s107 e w107 ⟨u107, rfl, rfl, hwf107⟩ HF108 hr; clear j0 j1 j2 j3 j4; clear HR; have HR := Lib.hid hr; clear hr; obtain ⟨t109, HT109⟩ := hidE (tokT c s107); (try simp only [NM, reduceIte, HT109.out, bt_n] at HR); obtain ⟨j0, j1, j2, j3, j4⟩ := HF108.b0.t5; (try simp only [NM, reduceIte, HGG56.out, bt_n] at HR); (try simp only [NM, reduceIte, HT109.out, bt_n] at HR); have hr := HR.out; clear HR; subst hr; go_wp2_with fail; go_ret; exact ⟨_, rfl, by omega, Fr.renum (Fr.sub HF108.out (L' := [.row 7 (.slice A56 l56.length cp56) l56]) (by simp))⟩
          · (try simp only [NM, reduceIte, bt_n] at HR); go_wp2_with fail
            with_reducible refine HF68.bind HN.out HB.out HR.out HO.out ?_ ?_
            · rintro s9 w9 rfl hq9; go_wp2_with fail; exact ⟨rfl, rfl, hq9.sub (by simp)⟩
            rintro a110 s110 e w110 ⟨u110, rfl, rfl, hwf110⟩ HF111 hr; clear HR; have HR := Lib.hid hr; clear hr; obtain ⟨t112, HT112⟩ := hidE (tokT c s110); (try simp only [NM, reduceIte, HT112.out, bt_n] at HR); go_wp2_with fail; go_roundg m60
            case measure => omega
            case rel => exact ⟨s110, HF111.sub (L' := [.row 7 (.slice A56 l56.length cp56) l56]) (by simp), HR.out⟩
        · simp only [NB] at nq66; (try simp only [NM, reduceIte, bt_n] at HR); go_wp2_with fail
          with_reducible refine HF65.bind HN.out HB.out HR.out HO.out ?_ ?_
          · rintro s9 w9 rfl hq9; go_wp2_with fail; exact ⟨rfl, rfl, hq9.sub (by simp)⟩
          rintro a113 s113 e w113 ⟨u113, rfl, rfl, hwf113⟩ HF114 hr; clear HR; have HR := Lib.hid hr; clear hr; obtain ⟨t115, HT115⟩ := hidE (tokT c s113); (try simp only [NM, reduceIte, HT115.out, bt_n] at HR); go_wp2_with fail; go_roundg m60
          case measure => omega
          case rel => exact ⟨s113, HF114.sub (L' := [.row 7 (.slice A56 l56.length cp56) l56]) (by simp), HR.out⟩
end
end Go.Proofs.YtcjoapmodaioiaaGreatDoor
end
