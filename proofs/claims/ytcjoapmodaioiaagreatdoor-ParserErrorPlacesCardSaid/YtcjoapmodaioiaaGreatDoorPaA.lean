/- The parser's small methods, walked. -/
import Derived.Test.YtcjoapmodaioiaaGreatDoorMPaC
set_option linter.unusedVariables false
set_option linter.unusedSimpArgs false
namespace Go.Proofs.YtcjoapmodaioiaaGreatDoor
open Go.RowKit Go.Shelf Pa
set_option maxRecDepth 100000
set_option maxHeartbeats 8000000

section
variable {c : Cx}
theorem name_any (hS : TokSt c.l) : Meth c 143 #[.pointer (some ⟨c.bp, 0, none⟩)] (name (c.l.map Tok.bt)) vNum := by
  (refine Meth.mk fun E s0 r W HF1 hb hr ho => ?_); have HN := Lib.hid (next_any hS); (have HK := Lib.hid (fun k => kind_any hS k)); (have HWt := Lib.hid (fun k x => want_any hS k x)); have HB := Lib.hid hb; have HO := Lib.hid ho; clear hb ho; have HR := Lib.hid hr; clear hr; obtain ⟨t2, HT2⟩ := hidE (tokT c s0); have hr := HR.out; clear HR; unfold name at hr; have HR := Lib.hid hr; clear hr; (try simp only [NM, reduceIte, HT2.out, bt_n] at HR); have fld0 := fldT0; have fld1 := fldT1; have fld2 := fldT2; go_enter Tryz.func143, Tryz.ntmps143; go_wp2_with fail
  with_reducible refine (HF1.tok).mono ?_
  rintro e w3 ⟨rfl, HF4⟩; rw [HT2.out]; go_upto_region 2 with (fail); obtain ⟨b5, w5, hb5, hw5, HF6⟩ := HF4.boxT 3 t2; rw [hw5, hb5]; clear hw5 hb5; obtain ⟨j0, j1, j2, j3, j4⟩ := HF6.b0.t5; obtain ⟨q7, eq7⟩ : ∃ q, (t2.bt.kind == 0) = q := ⟨_, rfl⟩; (try simp only [NM, reduceIte, eq7, bt_n] at HR); have hq7 : (t2.kind == 0) = q7 := eq7; (have nq7 : (t2.kind != 0) = !q7 := by rw [bne, hq7]); clear eq7; cases q7
  · simp only [NB] at nq7; (try simp only [NM, reduceIte, bt_n] at HR); obtain ⟨q8, eq8⟩ : ∃ q, (t2.bt.kind == 1) = q := ⟨_, rfl⟩; (try simp only [NM, reduceIte, eq8, bt_n] at HR); have hq8 : (t2.kind == 1) = q8 := eq8; (have nq8 : (t2.kind != 1) = !q8 := by rw [bne, hq8]); clear eq8; cases q8
    · simp only [NB] at nq8; (try simp only [NM, reduceIte, bt_n] at HR); obtain ⟨q9, hq9⟩ : ∃ q, isB t2.bt 5 ⟨#[40]⟩ = q := ⟨_, rfl⟩; have HI9 := Lib.hid (HF6.is 5 ⟨#[40]⟩); rw [HT2.out, hq9] at HI9; (try simp only [NM, reduceIte, hq9, bt_n] at HR); clear hq9; go_wp2_with fail
      with_reducible refine HI9.out.mono ?_
      rintro e w9 ⟨rfl, HF10⟩; clear j0 j1 j2 j3 j4; obtain ⟨j0, j1, j2, j3, j4⟩ := HF10.b0.t5; cases q9
      · (try simp only [NM, reduceIte, bt_n] at HR); go_wp2_with fail
        with_reducible refine (HF10.fail' 5 HB.out).mono ?_
        rintro e w11 ⟨rfl, hq⟩; have hq := Lib.hid hq; have hr := HR.out; clear HR; subst hr; clear j0 j1 j2 j3 j4; go_wp2_with fail; exact ⟨rfl, rfl, hq.out.sub (by simp)⟩
      · (try simp only [NM, reduceIte, bt_n] at HR); go_wp2_with fail
        with_reducible refine HF10.bind HN.out HB.out HR.out HO.out ?_ ?_
        · rintro s9 w9 rfl hq9; go_wp2_with fail; exact ⟨rfl, rfl, hq9.sub (by simp)⟩
        rintro a12 s12 e w12 ⟨u12, rfl, rfl, hwf12⟩ HF13 hr; clear j0 j1 j2 j3 j4; clear HR; have HR := Lib.hid hr; clear hr; obtain ⟨t14, HT14⟩ := hidE (tokT c s12); (try simp only [NM, reduceIte, HT14.out, bt_n] at HR); obtain ⟨j0, j1, j2, j3, j4⟩ := HF13.b0.t5; go_wp2_with fail
        with_reducible refine HF13.bind (HK.out 3) HB.out HR.out HO.out ?_ ?_
        · rintro s9 w9 rfl hq9; go_wp2_with fail; exact ⟨rfl, rfl, hq9.sub (by simp)⟩
        rintro a15 s15 e w15 ⟨u15, rfl, rfl, hwf15⟩ HF16 hr; clear j0 j1 j2 j3 j4; clear HR; have HR := Lib.hid hr; clear hr; obtain ⟨t17, HT17⟩ := hidE (tokT c s15); (try simp only [NM, reduceIte, HT17.out, bt_n] at HR); obtain ⟨j0, j1, j2, j3, j4⟩ := HF16.b0.t5; go_upto_region 8 with (fail); obtain ⟨b18, w18, hb18, hw18, HF19⟩ := HF16.boxT 4 u15; rw [hw18, hb18]; clear hw18 hb18; clear j0 j1 j2 j3 j4; obtain ⟨j5, j6, j7, j8, j9⟩ := HF19.b0.t5; obtain ⟨j0, j1, j2, j3, j4⟩ := HF19.b1.t5; go_wp2_with fail
        with_reducible refine HF19.bind (HWt.out 5 ⟨#[41]⟩) HB.out HR.out HO.out ?_ ?_
        · rintro s9 w9 rfl hq9; go_wp2_with fail; exact ⟨rfl, rfl, hq9.sub (by simp)⟩
        rintro a20 s20 e w20 ⟨u20, rfl, rfl, hwf20⟩ HF21 hr; clear j5 j6 j7 j8 j9 j0 j1 j2 j3 j4; clear HR; have HR := Lib.hid hr; clear hr; obtain ⟨t22, HT22⟩ := hidE (tokT c s20); (try simp only [NM, reduceIte, HT22.out, bt_n] at HR); obtain ⟨j5, j6, j7, j8, j9⟩ := HF21.b0.t5; obtain ⟨j0, j1, j2, j3, j4⟩ := HF21.b1.t5; go_wp2_with fail; refine HF21.putT HB.out t2 { kind := 3, text := u15.text } 999 (.slice none 0 0) [.box 4 b18 59 (TC u15), .box 3 b5 59 (TC t2)] (.inl ⟨rfl, rfl⟩) (by simp [Loc.key]) HR.out ?_ ?_
        · rintro s9 w9 rfl hq9; go_wp2_with fail; exact ⟨rfl, rfl, hq9.sub (by simp)⟩
        intro i23 s23 w23 hi23 HF24 hr; unfold kidC; clear j5 j6 j7 j8 j9 j0 j1 j2 j3 j4; clear HR; have HR := Lib.hid hr; clear hr; obtain ⟨j5, j6, j7, j8, j9⟩ := HF24.b0.t5; obtain ⟨j0, j1, j2, j3, j4⟩ := HF24.b1.t5; have hr := HR.out; clear HR; subst hr; go_wp2_with fail; go_ret; exact ⟨⟨rfl, hi23⟩, HF24.sub (by simp)⟩
    · simp only [NB] at nq8; (try simp only [NM, reduceIte, bt_n] at HR); go_wp2_with fail
      with_reducible refine HF6.bind HN.out HB.out HR.out HO.out ?_ ?_
      · rintro s9 w9 rfl hq9; go_wp2_with fail; exact ⟨rfl, rfl, hq9.sub (by simp)⟩
      rintro a25 s25 e w25 ⟨u25, rfl, rfl, hwf25⟩ HF26 hr; clear j0 j1 j2 j3 j4; clear HR; have HR := Lib.hid hr; clear hr; obtain ⟨t27, HT27⟩ := hidE (tokT c s25); (try simp only [NM, reduceIte, HT27.out, bt_n] at HR); obtain ⟨j0, j1, j2, j3, j4⟩ := HF26.b0.t5; go_wp2_with fail; refine HF26.putT HB.out t2 { kind := 3, text := t2.text } 999 (.slice none 0 0) [.box 3 b5 59 (TC t2)] (.inl ⟨rfl, rfl⟩) (by simp [Loc.key]) HR.out ?_ ?_
      · rintro s9 w9 rfl hq9; go_wp2_with fail; exact ⟨rfl, rfl, hq9.sub (by simp)⟩
      intro i28 s28 w28 hi28 HF29 hr; unfold kidC; clear j0 j1 j2 j3 j4; clear HR; have HR := Lib.hid hr; clear hr; obtain ⟨j0, j1, j2, j3, j4⟩ := HF29.b0.t5; have hr := HR.out; clear HR; subst hr; go_wp2_with fail; go_ret; exact ⟨⟨rfl, hi28⟩, HF29.sub (by simp)⟩
  · simp only [NB] at nq7; (try simp only [NM, reduceIte, bt_n] at HR); go_wp2_with fail
    with_reducible refine HF6.bind HN.out HB.out HR.out HO.out ?_ ?_
    · rintro s9 w9 rfl hq9; go_wp2_with fail; exact ⟨rfl, rfl, hq9.sub (by simp)⟩
    rintro a30 s30 e w30 ⟨u30, rfl, rfl, hwf30⟩ HF31 hr; clear j0 j1 j2 j3 j4; clear HR; have HR := Lib.hid hr; clear hr; obtain ⟨t32, HT32⟩ := hidE (tokT c s30); (try simp only [NM, reduceIte, HT32.out, bt_n] at HR); obtain ⟨j0, j1, j2, j3, j4⟩ := HF31.b0.t5; go_wp2_with fail; refine HF31.putT HB.out t2 { kind := 3, text := t2.text } 999 (.slice none 0 0) [.box 3 b5 59 (TC t2)] (.inl ⟨rfl, rfl⟩) (by simp [Loc.key]) HR.out ?_ ?_
    · rintro s9 w9 rfl hq9; go_wp2_with fail; exact ⟨rfl, rfl, hq9.sub (by simp)⟩
    intro i33 s33 w33 hi33 HF34 hr; unfold kidC; clear j0 j1 j2 j3 j4; clear HR; have HR := Lib.hid hr; clear hr; obtain ⟨j0, j1, j2, j3, j4⟩ := HF34.b0.t5; have hr := HR.out; clear HR; subst hr; go_wp2_with fail; go_ret; exact ⟨⟨rfl, hi33⟩, HF34.sub (by simp)⟩
theorem tail_any (hS : TokSt c.l) : MethR c 165 #[.pointer (some ⟨c.bp, 0, none⟩)] (tail (c.l.map Tok.bt)) := by
  (refine MethR.mk fun E s0 r W HF1 hb hr ho => ?_); have HN := Lib.hid (next_any hS); (have HK := Lib.hid (fun k => kind_any hS k)); (have HWt := Lib.hid (fun k x => want_any hS k x)); have HB := Lib.hid hb; have HO := Lib.hid ho; clear hb ho; have HR := Lib.hid hr; clear hr; obtain ⟨t2, HT2⟩ := hidE (tokT c s0); have hr := HR.out; clear HR; unfold tail at hr; have HR := Lib.hid hr; clear hr; (try simp only [NM, reduceIte, HT2.out, bt_n] at HR); have fld0 := fldT0; have fld1 := fldT1; have fld2 := fldT2; go_enter Tryz.func165, Tryz.ntmps165; go_wp2_with fail
  with_reducible refine HF1.bind (HK.out 0) HB.out HR.out HO.out ?_ ?_
  · rintro s9 w9 rfl hq9; go_wp2_with fail; exact ⟨rfl, rfl, hq9.sub (by simp)⟩
  rintro a3 s3 e w3 ⟨u3, rfl, rfl, hwf3⟩ HF4 hr; clear HR; have HR := Lib.hid hr; clear hr; obtain ⟨t5, HT5⟩ := hidE (tokT c s3); (try simp only [NM, reduceIte, HT5.out, bt_n] at HR); go_upto_region 2 with (fail); obtain ⟨b6, w6, hb6, hw6, HF7⟩ := HF4.boxT 3 u3; rw [hw6, hb6]; clear hw6 hb6; obtain ⟨j0, j1, j2, j3, j4⟩ := HF7.b0.t5; go_wp2_with fail; refine HF7.put HB.out u3 { kind := 14, text := u3.text } 999 (.slice none 0 0) [.box 3 b6 59 (TC u3)] (.inl ⟨rfl, rfl⟩) (by simp [Loc.key]) HR.out ?_ ?_
  · rintro s9 w9 rfl hq9; go_wp2_with fail; exact ⟨rfl, rfl, hq9.sub (by simp)⟩
  intro i8 s8 w8 hi8 HF9 hr; unfold kidC; clear j0 j1 j2 j3 j4; clear HR; have HR := Lib.hid hr; clear hr; obtain ⟨t10, HT10⟩ := hidE (tokT c s8); (try simp only [NM, reduceIte, HT10.out, bt_n] at HR); obtain ⟨j0, j1, j2, j3, j4⟩ := HF9.b0.t5; have hr := HR.out; clear HR; subst hr; go_wp2_with fail; go_ret; (refine ⟨_, rfl, by simp, ?_⟩); exact Fr.renum (Fr.sub (HF9.kid1 5 i8 hi8) (L' := [.row 5 _ _]) (by simp))
theorem param_any (hS : TokSt c.l) : Meth c 155 #[.pointer (some ⟨c.bp, 0, none⟩)] (param (c.l.map Tok.bt)) vNum := by
  (refine Meth.mk fun E s0 r W HF1 hb hr ho => ?_); have HN := Lib.hid (next_any hS); (have HK := Lib.hid (fun k => kind_any hS k)); (have HWt := Lib.hid (fun k x => want_any hS k x)); have HB := Lib.hid hb; have HO := Lib.hid ho; clear hb ho; have HR := Lib.hid hr; clear hr; obtain ⟨t2, HT2⟩ := hidE (tokT c s0); have hr := HR.out; clear HR; unfold param at hr; have HR := Lib.hid hr; clear hr; (try simp only [NM, reduceIte, HT2.out, bt_n] at HR); have fld0 := fldT0; have fld1 := fldT1; have fld2 := fldT2; go_enter Tryz.func155, Tryz.ntmps155; go_wp2_with fail
  with_reducible refine HF1.bind (HK.out 0) HB.out HR.out HO.out ?_ ?_
  · rintro s9 w9 rfl hq9; go_wp2_with fail; exact ⟨rfl, rfl, hq9.sub (by simp)⟩
  rintro a3 s3 e w3 ⟨u3, rfl, rfl, hwf3⟩ HF4 hr; clear HR; have HR := Lib.hid hr; clear hr; obtain ⟨t5, HT5⟩ := hidE (tokT c s3); (try simp only [NM, reduceIte, HT5.out, bt_n] at HR); go_upto_region 2 with (fail); obtain ⟨b6, w6, hb6, hw6, HF7⟩ := HF4.boxT 3 u3; rw [hw6, hb6]; clear hw6 hb6; obtain ⟨j0, j1, j2, j3, j4⟩ := HF7.b0.t5; obtain ⟨q8, hq8⟩ : ∃ q, isX u3.bt ⟨#[95]⟩ = q := ⟨_, rfl⟩; (have gq8 : (u3.text.toList == [95]) = q8 := by rw [← hq8, isX_eq, show (⟨#[95]⟩ : ByteArray).toList = [95] from by kernel_rfl]); (have nq8 : (u3.text.toList != [95]) = !q8 := by rw [bne, gq8]); (try simp only [NM, reduceIte, hq8, bt_n] at HR); clear hq8; cases q8
  · simp only [NB] at nq8; (try simp only [NM, reduceIte, bt_n] at HR); go_wp2_with fail; refine HF7.putT HB.out u3 { kind := 35, text := u3.text } 999 (.slice none 0 0) [.box 3 b6 59 (TC u3)] (.inl ⟨rfl, rfl⟩) (by simp [Loc.key]) HR.out ?_ ?_
    · rintro s9 w9 rfl hq9; go_wp2_with fail; exact ⟨rfl, rfl, hq9.sub (by simp)⟩
    intro i9 s9 w9 hi9 HF10 hr; unfold kidC; clear j0 j1 j2 j3 j4; clear HR; have HR := Lib.hid hr; clear hr; obtain ⟨j0, j1, j2, j3, j4⟩ := HF10.b0.t5; have hr := HR.out; clear HR; subst hr; go_wp2_with fail; go_ret; exact ⟨⟨rfl, hi9⟩, HF10.sub (by simp)⟩
  · simp only [NB] at nq8; (try simp only [NM, reduceIte, bt_n] at HR); go_wp2_with fail; refine HF7.putT HB.out u3 { kind := 36 } 999 (.slice none 0 0) [.box 3 b6 59 (TC u3)] (.inl ⟨rfl, rfl⟩) (by simp [Loc.key]) HR.out ?_ ?_
    · rintro s9 w9 rfl hq9; go_wp2_with fail; exact ⟨rfl, rfl, hq9.sub (by simp)⟩
    intro i11 s11 w11 hi11 HF12 hr; unfold kidC; clear j0 j1 j2 j3 j4; clear HR; have HR := Lib.hid hr; clear hr; obtain ⟨j0, j1, j2, j3, j4⟩ := HF12.b0.t5; have hr := HR.out; clear HR; subst hr; go_wp2_with fail; go_ret; exact ⟨⟨rfl, hi11⟩, HF12.sub (by simp)⟩
theorem defined_any (hS : TokSt c.l) : Meth c 139 #[.pointer (some ⟨c.bp, 0, none⟩)] (defined (c.l.map Tok.bt)) vStr := by
  (refine Meth.mk fun E s0 r W HF1 hb hr ho => ?_); have HN := Lib.hid (next_any hS); (have HK := Lib.hid (fun k => kind_any hS k)); (have HWt := Lib.hid (fun k x => want_any hS k x)); have HB := Lib.hid hb; have HO := Lib.hid ho; clear hb ho; have HR := Lib.hid hr; clear hr; obtain ⟨t2, HT2⟩ := hidE (tokT c s0); have hr := HR.out; clear HR; unfold defined at hr; have HR := Lib.hid hr; clear hr; (try simp only [NM, reduceIte, HT2.out, bt_n] at HR); have fld0 := fldT0; have fld1 := fldT1; have fld2 := fldT2; go_enter Tryz.func139, Tryz.ntmps139; obtain ⟨q3, hq3⟩ : ∃ q, isB t2.bt 5 ⟨#[40]⟩ = q := ⟨_, rfl⟩; have HI3 := Lib.hid (HF1.is 5 ⟨#[40]⟩); rw [HT2.out, hq3] at HI3; (try simp only [NM, reduceIte, hq3, bt_n] at HR); clear hq3; go_wp2_with fail
  with_reducible refine HI3.out.mono ?_
  rintro e w3 ⟨rfl, HF4⟩; cases q3
  · (try simp only [NM, reduceIte, bt_n] at HR); go_wp2_with fail
    with_reducible refine HF4.bind (HK.out 0) HB.out HR.out HO.out ?_ ?_
    · rintro s9 w9 rfl hq9; go_wp2_with fail; exact ⟨rfl, rfl, hq9.sub (by simp)⟩
    rintro a5 s5 e w5 ⟨u5, rfl, rfl, hwf5⟩ HF6 hr; clear HR; have HR := Lib.hid hr; clear hr; obtain ⟨t7, HT7⟩ := hidE (tokT c s5); (try simp only [NM, reduceIte, HT7.out, bt_n] at HR); have hr := HR.out; clear HR; subst hr; go_wp2_with fail; go_ret; exact ⟨rfl, HF6.sub (by simp)⟩
  · (try simp only [NM, reduceIte, bt_n] at HR); go_wp2_with fail
    with_reducible refine HF4.bind HN.out HB.out HR.out HO.out ?_ ?_
    · rintro s9 w9 rfl hq9; go_wp2_with fail; exact ⟨rfl, rfl, hq9.sub (by simp)⟩
    rintro a8 s8 e w8 ⟨u8, rfl, rfl, hwf8⟩ HF9 hr; clear HR; have HR := Lib.hid hr; clear hr; obtain ⟨t10, HT10⟩ := hidE (tokT c s8); (try simp only [NM, reduceIte, HT10.out, bt_n] at HR); go_wp2_with fail
    with_reducible refine HF9.bind (HK.out 3) HB.out HR.out HO.out ?_ ?_
    · rintro s9 w9 rfl hq9; go_wp2_with fail; exact ⟨rfl, rfl, hq9.sub (by simp)⟩
    rintro a11 s11 e w11 ⟨u11, rfl, rfl, hwf11⟩ HF12 hr; clear HR; have HR := Lib.hid hr; clear hr; obtain ⟨t13, HT13⟩ := hidE (tokT c s11); (try simp only [NM, reduceIte, HT13.out, bt_n] at HR); go_upto_region 5 with (fail); obtain ⟨b14, w14, hb14, hw14, HF15⟩ := HF12.boxT 3 u11; rw [hw14, hb14]; clear hw14 hb14; obtain ⟨j0, j1, j2, j3, j4⟩ := HF15.b0.t5; go_wp2_with fail
    with_reducible refine HF15.bind (HWt.out 5 ⟨#[41]⟩) HB.out HR.out HO.out ?_ ?_
    · rintro s9 w9 rfl hq9; go_wp2_with fail; exact ⟨rfl, rfl, hq9.sub (by simp)⟩
    rintro a16 s16 e w16 ⟨u16, rfl, rfl, hwf16⟩ HF17 hr; clear j0 j1 j2 j3 j4; clear HR; have HR := Lib.hid hr; clear hr; obtain ⟨t18, HT18⟩ := hidE (tokT c s16); (try simp only [NM, reduceIte, HT18.out, bt_n] at HR); obtain ⟨j0, j1, j2, j3, j4⟩ := HF17.b0.t5; have hr := HR.out; clear HR; subst hr; go_wp2_with fail; go_ret; exact ⟨rfl, HF17.sub (by simp)⟩
theorem Fr.beginsType {E : EnP} {L : List Loc} {s : Ps} {w : World} (h : Fr c E 0 L s w) : Calls Tryz.prog 145 #[.pointer (some ⟨c.bp, 0, none⟩)] w (fun e w' => e = .returned (.bool (Pa.beginsType (tokT c s).bt)) ∧ Fr c E 0 L s w') := by
  have HF1 := h; clear h; obtain ⟨t2, HT2⟩ := hidE (tokT c s); rw [HT2.out]; have fld0 := fldT0; go_enter Tryz.func145, Tryz.ntmps145; go_wp2_with fail
  with_reducible refine (HF1.tok).mono ?_
  rintro e w3 ⟨rfl, HF4⟩; rw [HT2.out]; obtain ⟨q5, eq5⟩ : ∃ q, (t2.bt.kind == 0) = q := ⟨_, rfl⟩; have hq5 : (t2.kind == 0) = q5 := eq5; (have nq5 : (t2.kind != 0) = !q5 := by rw [bne, hq5]); clear eq5; cases q5
  · simp only [NB] at nq5; obtain ⟨q6, eq6⟩ : ∃ q, (t2.bt.kind == 1) = q := ⟨_, rfl⟩; have hq6 : (t2.kind == 1) = q6 := eq6; (have nq6 : (t2.kind != 1) = !q6 := by rw [bne, hq6]); clear eq6; cases q6
    · simp only [NB] at nq6; obtain ⟨q7, hq7⟩ : ∃ q, isB t2.bt 5 ⟨#[40]⟩ = q := ⟨_, rfl⟩; have HI7 := Lib.hid (HF4.is 5 ⟨#[40]⟩); rw [HT2.out, hq7] at HI7; go_wp2_with fail
      with_reducible refine HI7.out.mono ?_
      rintro e w7 ⟨rfl, HF8⟩; cases q7
      · obtain ⟨q9, hq9⟩ : ∃ q, isB t2.bt 5 ⟨#[123]⟩ = q := ⟨_, rfl⟩; have HI9 := Lib.hid (HF8.is 5 ⟨#[123]⟩); rw [HT2.out, hq9] at HI9; go_wp2_with fail
        with_reducible refine HI9.out.mono ?_
        rintro e w9 ⟨rfl, HF10⟩; cases q9
        · go_wp2_with fail; go_ret; refine ⟨?_, HF10.out⟩; simp [Pa.beginsType, bt_kind, *]
        · go_wp2_with fail; go_ret; refine ⟨?_, HF10.out⟩; simp [Pa.beginsType, bt_kind, *]
      · go_wp2_with fail; go_ret; refine ⟨?_, HF8.out⟩; simp [Pa.beginsType, bt_kind, *]
    · simp only [NB] at nq6; go_wp2_with fail; go_ret; refine ⟨?_, HF4.out⟩; simp [Pa.beginsType, bt_kind, *]
  · simp only [NB] at nq5; go_wp2_with fail; go_ret; refine ⟨?_, HF4.out⟩; simp [Pa.beginsType, bt_kind, *]
theorem Fr.begins {E : EnP} {L : List Loc} {s : Ps} {w : World} (h : Fr c E 0 L s w) : Calls Tryz.prog 169 #[.pointer (some ⟨c.bp, 0, none⟩)] w (fun e w' => e = .returned (.bool (Pa.begins (tokT c s).bt)) ∧ Fr c E 0 L s w') := by
  have HF1 := h; clear h; obtain ⟨t2, HT2⟩ := hidE (tokT c s); rw [HT2.out]; have fld0 := fldT0; go_enter Tryz.func169, Tryz.ntmps169; go_wp2_with fail
  with_reducible refine (HF1.tok).mono ?_
  rintro e w3 ⟨rfl, HF4⟩; rw [HT2.out]; obtain ⟨q5, eq5⟩ : ∃ q, (t2.bt.kind == 0) = q := ⟨_, rfl⟩; have hq5 : (t2.kind == 0) = q5 := eq5; (have nq5 : (t2.kind != 0) = !q5 := by rw [bne, hq5]); clear eq5; cases q5
  · simp only [NB] at nq5; obtain ⟨q6, eq6⟩ : ∃ q, (t2.bt.kind == 1) = q := ⟨_, rfl⟩; have hq6 : (t2.kind == 1) = q6 := eq6; (have nq6 : (t2.kind != 1) = !q6 := by rw [bne, hq6]); clear eq6; cases q6
    · simp only [NB] at nq6; obtain ⟨q7, eq7⟩ : ∃ q, (t2.bt.kind == 2) = q := ⟨_, rfl⟩; have hq7 : (t2.kind == 2) = q7 := eq7; (have nq7 : (t2.kind != 2) = !q7 := by rw [bne, hq7]); clear eq7; cases q7
      · simp only [NB] at nq7; obtain ⟨q8, hq8⟩ : ∃ q, isB t2.bt 5 ⟨#[40]⟩ = q := ⟨_, rfl⟩; have HI8 := Lib.hid (HF4.is 5 ⟨#[40]⟩); rw [HT2.out, hq8] at HI8; go_wp2_with fail
        with_reducible refine HI8.out.mono ?_
        rintro e w8 ⟨rfl, HF9⟩; cases q8
        · obtain ⟨q10, hq10⟩ : ∃ q, isB t2.bt 5 ⟨#[123]⟩ = q := ⟨_, rfl⟩; have HI10 := Lib.hid (HF9.is 5 ⟨#[123]⟩); rw [HT2.out, hq10] at HI10; go_wp2_with fail
          with_reducible refine HI10.out.mono ?_
          rintro e w10 ⟨rfl, HF11⟩; cases q10
          · go_wp2_with fail; go_ret; refine ⟨?_, HF11.out⟩; simp [Pa.begins, bt_kind, *]
          · go_wp2_with fail; go_ret; refine ⟨?_, HF11.out⟩; simp [Pa.begins, bt_kind, *]
        · go_wp2_with fail; go_ret; refine ⟨?_, HF9.out⟩; simp [Pa.begins, bt_kind, *]
      · simp only [NB] at nq7; go_wp2_with fail; go_ret; refine ⟨?_, HF4.out⟩; simp [Pa.begins, bt_kind, *]
    · simp only [NB] at nq6; go_wp2_with fail; go_ret; refine ⟨?_, HF4.out⟩; simp [Pa.begins, bt_kind, *]
  · simp only [NB] at nq5; go_wp2_with fail; go_ret; refine ⟨?_, HF4.out⟩; simp [Pa.begins, bt_kind, *]
end
end Go.Proofs.YtcjoapmodaioiaaGreatDoor
