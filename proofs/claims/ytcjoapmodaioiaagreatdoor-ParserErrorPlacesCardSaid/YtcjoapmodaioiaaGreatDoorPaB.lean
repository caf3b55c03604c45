/- The parser's names and parameters, walked. -/
import Derived.Test.YtcjoapmodaioiaaGreatDoorPaA
set_option linter.unusedVariables false
set_option linter.unusedSimpArgs false
namespace Go.Proofs.YtcjoapmodaioiaaGreatDoor
open Go.RowKit Go.Shelf Pa
set_option maxRecDepth 100000
set_option maxHeartbeats 8000000

section
variable {c : Cx}
theorem names_any (hS : TokSt c.l) (n : Nat) (hn : n ≤ 1000000) : MethR c 121 #[.pointer (some ⟨c.bp, 0, none⟩)] (names (c.l.map Tok.bt) n) := by
  (refine MethR.mk fun E s0 r W HF1 hb hr ho => ?_); have HN := Lib.hid (next_any hS); (have HK := Lib.hid (fun k => kind_any hS k)); (have HWt := Lib.hid (fun k x => want_any hS k x)); have HNm := Lib.hid (name_any hS); have HB := Lib.hid hb; have HO := Lib.hid ho; clear hb ho; have HR := Lib.hid hr; clear hr; obtain ⟨t2, HT2⟩ := hidE (tokT c s0); have hr := HR.out; clear HR; unfold names at hr; have HR := Lib.hid hr; clear hr; (try simp only [NM, reduceIte, HT2.out, bt_n] at HR); have fld0 := fldT0; have fld1 := fldT1; have fld2 := fldT2; go_enter Tryz.func121, Tryz.ntmps121; go_wp2_with fail
  with_reducible refine HF1.bind (HWt.out 5 ⟨#[40]⟩) HB.out HR.out HO.out ?_ ?_
  · rintro s9 w9 rfl hq9; go_wp2_with fail; exact ⟨rfl, rfl, hq9.sub (by simp)⟩
  rintro a3 s3 e w3 ⟨u3, rfl, rfl, hwf3⟩ HF4 hr; clear HR; have HR := Lib.hid hr; clear hr; obtain ⟨t5, HT5⟩ := hidE (tokT c s3); (try simp only [NM, reduceIte, HT5.out, bt_n] at HR); have HF6 := HF4.nil 3; have hr := HR.out; clear HR; obtain ⟨F7, g7, hFF7, hGG7, hr⟩ := split_loop hr; have HFF7 := Lib.hid hFF7; have HGG7 := Lib.hid hGG7; have HR := Lib.hid hr; clear hr hFF7 hGG7; (have HF8 := HF6.sub (L' := [.row 3 (.slice none 0 0) []]) (by simp)); clear HF6; go_wp2_with fail; go_loopg [3] n (fun gk x3 wr => ∃ (s5 : Ps) (l5 : List Nat), Fr c E 0 [.row 3 x3 l5] s5 wr ∧ l5.length + gk ≤ 1000000 ∧ Hid ((loop F7 gk l5 >>= g7) s5 = r))
  case atStart => exact ⟨s3, [], HF8.out, by (try simp only [List.length_nil, List.length_cons]); omega, HR.out⟩
  case round =>
    obtain ⟨w7, rfl⟩ : ∃ w, w = wr := ⟨_, rfl⟩; clear HR HF8; obtain ⟨s7, l7, HF9, hl7, hr⟩ := hrel; obtain ⟨A7, cp7, hv7, _⟩ := own_formP HF9.r0; subst hv7; obtain _ | m7 := gk
    · exact absurd (loop_zero hr.out) HO.out
    have HR := Lib.hid (loop_step hr.out HFF7.out); clear hr; obtain ⟨t10, HT10⟩ := hidE (tokT c s7); (try simp only [NM, reduceIte, HT10.out, bt_n] at HR); obtain ⟨q11, hq11⟩ : ∃ q, isB t10.bt 5 ⟨#[41]⟩ = q := ⟨_, rfl⟩; have HI11 := Lib.hid (HF9.is 5 ⟨#[41]⟩); rw [HT10.out, hq11] at HI11; (try simp only [NM, reduceIte, hq11, bt_n] at HR); clear hq11; go_wp2_with fail
    with_reducible refine HI11.out.mono ?_
    rintro e w11 ⟨rfl, HF12⟩; cases q11
    · (try simp only [NM, reduceIte, bt_n] at HR); by_cases h07 : 0 < l7.length
      · (have hd7 : decide (0 < l7.length) = true := by simpa using h07); (try simp only [NM, reduceIte, h07, bt_n] at HR); go_wp2_with fail
        with_reducible refine HF12.bind (HWt.out 5 ⟨#[44]⟩) HB.out HR.out HO.out ?_ ?_
        · rintro s9 w9 rfl hq9; go_wp2_with fail; exact ⟨rfl, rfl, hq9.sub (by simp)⟩
        rintro a13 s13 e w13 ⟨u13, rfl, rfl, hwf13⟩ HF14 hr; clear HR; have HR := Lib.hid hr; clear hr; obtain ⟨t15, HT15⟩ := hidE (tokT c s13); (try simp only [NM, reduceIte, HT15.out, bt_n] at HR); go_wp2_with fail
        with_reducible refine HF14.bind HNm.out HB.out HR.out HO.out ?_ ?_
        · rintro s9 w9 rfl hq9; go_wp2_with fail; exact ⟨rfl, rfl, hq9.sub (by simp)⟩
        rintro a16 s16 e w16 ⟨rfl, hi16⟩ HF17 hr; unfold kidC; clear HR; have HR := Lib.hid hr; clear hr; obtain ⟨t18, HT18⟩ := hidE (tokT c s16); (try simp only [NM, reduceIte, HT18.out, bt_n] at HR); (go_wp2_with (at_builtin; (refine (HF17.kid1 99 a16 hi16).wpl_app rfl 3 (List.mem_cons_of_mem _ List.mem_cons_self) _ _ rfl rfl List.mem_cons_self hi16 rfl (by (try simp only [List.length_append, List.length_nil, List.length_cons]); omega) (L' := []) (by simp [Loc.key]) ?_); intro v19 w19 HF20)); obtain ⟨A19, N19, cp19, hv19, hN19⟩ := own_form2 HF20.r0; subst hv19; go_wp2_with fail; go_roundg m7
        case measure => omega
        case rel => exact ⟨s16, (l7 ++ [a16]), HF20.sub (L' := [.row 3 (.slice A19 N19 cp19) (l7 ++ [a16])]) (by simp), by (try simp only [List.length_append, List.length_nil, List.length_cons]); omega, HR.out⟩
      · (have hd7 : decide (0 < l7.length) = false := by simpa using h07); (try simp only [NM, reduceIte, h07, bt_n] at HR); go_wp2_with fail
        with_reducible refine HF12.bind HNm.out HB.out HR.out HO.out ?_ ?_
        · rintro s9 w9 rfl hq9; go_wp2_with fail; exact ⟨rfl, rfl, hq9.sub (by simp)⟩
        rintro a21 s21 e w21 ⟨rfl, hi21⟩ HF22 hr; unfold kidC; clear HR; have HR := Lib.hid hr; clear hr; obtain ⟨t23, HT23⟩ := hidE (tokT c s21); (try simp only [NM, reduceIte, HT23.out, bt_n] at HR); (go_wp2_with (at_builtin; (refine (HF22.kid1 99 a21 hi21).wpl_app rfl 3 (List.mem_cons_of_mem _ List.mem_cons_self) _ _ rfl rfl List.mem_cons_self hi21 rfl (by (try simp only [List.length_append, List.length_nil, List.length_cons]); omega) (L' := []) (by simp [Loc.key]) ?_); intro v24 w24 HF25)); obtain ⟨A24, N24, cp24, hv24, hN24⟩ := own_form2 HF25.r0; subst hv24; go_wp2_with fail; go_roundg m7
        case measure => omega
        case rel => exact ⟨s21, (l7 ++ [a21]), HF25.sub (L' := [.row 3 (.slice A24 N24 cp24) (l7 ++ [a21])]) (by simp), by (try simp only [List.length_append, List.length_nil, List.length_cons]); omega, HR.out⟩
    · (try simp only [NM, reduceIte, bt_n] at HR); (try simp only [NM, reduceIte, HGG7.out, bt_n] at HR); (try simp only [NM, reduceIte, HT10.out, bt_n] at HR); go_wp2_with fail
      with_reducible refine HF12.bind HN.out HB.out HR.out HO.out ?_ ?_
      · rintro s9 w9 rfl hq9; go_wp2_with fail; exact ⟨rfl, rfl, hq9.sub (by simp)⟩
      rintro a26 s26 e w26 ⟨u26, rfl, rfl, hwf26⟩ HF27 hr; clear HR; have HR := Lib.hid hr; clear hr; obtain ⟨t28, HT28⟩ := hidE (tokT c s26); (try simp only [NM, reduceIte, HT28.out, bt_n] at HR); have hr := HR.out; clear HR; subst hr; go_wp2_with fail; go_ret; exact ⟨_, rfl, by omega, Fr.renum (Fr.sub HF27.out (L' := [.row 3 (.slice A7 l7.length cp7) l7]) (by simp))⟩
theorem params_any (hS : TokSt c.l) (n : Nat) (hn : n ≤ 1000000) : MethR c 144 #[.pointer (some ⟨c.bp, 0, none⟩)] (params (c.l.map Tok.bt) n) := by
  (refine MethR.mk fun E s0 r W HF1 hb hr ho => ?_); have HN := Lib.hid (next_any hS); (have HK := Lib.hid (fun k => kind_any hS k)); (have HWt := Lib.hid (fun k x => want_any hS k x)); have HB := Lib.hid hb; have HO := Lib.hid ho; clear hb ho; have HR := Lib.hid hr; clear hr; obtain ⟨t2, HT2⟩ := hidE (tokT c s0); have hr := HR.out; clear HR; unfold params at hr; have HR := Lib.hid hr; clear hr; (try simp only [NM, reduceIte, HT2.out, bt_n] at HR); have fld0 := fldT0; have fld1 := fldT1; have fld2 := fldT2; go_enter Tryz.func144, Tryz.ntmps144; have HF3 := HF1.nil 3; have hr := HR.out; clear HR; obtain ⟨F4, g4, hFF4, hGG4, hr⟩ := split_loop (to_bind hr); have HFF4 := Lib.hid hFF4; have HGG4 := Lib.hid hGG4; have HR := Lib.hid hr; clear hr hFF4 hGG4; (have HF5 := HF3.sub (L' := [.row 3 (.slice none 0 0) []]) (by simp)); clear HF3; go_wp2_with fail; go_loopg [3] n (fun gk x3 wr => ∃ (s5 : Ps) (l5 : List Nat), Fr c E 0 [.row 3 x3 l5] s5 wr ∧ l5.length + gk ≤ 1000000 ∧ Hid ((loop F4 gk l5 >>= g4) s5 = r))
  case atStart => exact ⟨s0, [], HF5.out, by (try simp only [List.length_nil, List.length_cons]); omega, HR.out⟩
  case round =>
    obtain ⟨w4, rfl⟩ : ∃ w, w = wr := ⟨_, rfl⟩; clear HR HF5; obtain ⟨s4, l4, HF6, hl4, hr⟩ := hrel; obtain ⟨A4, cp4, hv4, _⟩ := own_formP HF6.r0; subst hv4; obtain _ | m4 := gk
    · exact absurd (loop_zero hr.out) HO.out
    have HR := Lib.hid (loop_step hr.out HFF4.out); clear hr; obtain ⟨t7, HT7⟩ := hidE (tokT c s4); (try simp only [NM, reduceIte, HT7.out, bt_n] at HR); go_wp2_with fail
    with_reducible refine (HF6.tok).mono ?_
    rintro e w8 ⟨rfl, HF9⟩; rw [HT7.out]; obtain ⟨q10, eq10⟩ : ∃ q, (t7.bt.kind == 0) = q := ⟨_, rfl⟩; (try simp only [NM, reduceIte, eq10, bt_n] at HR); have hq10 : (t7.kind == 0) = q10 := eq10; (have nq10 : (t7.kind != 0) = !q10 := by rw [bne, hq10]); clear eq10; cases q10
    · simp only [NB] at nq10; (try simp only [NM, reduceIte, bt_n] at HR); (try simp only [NM, reduceIte, HGG4.out, bt_n] at HR); (try simp only [NM, reduceIte, HT7.out, bt_n] at HR); have hr := HR.out; clear HR; subst hr; go_wp2_with fail; go_ret; exact ⟨_, rfl, by omega, Fr.renum (Fr.sub HF9.out (L' := [.row 3 (.slice A4 l4.length cp4) l4]) (by simp))⟩
    · simp only [NB] at nq10; (try simp only [NM, reduceIte, bt_n] at HR); go_wp2_with fail
      with_reducible refine HF9.bind HN.out HB.out HR.out HO.out ?_ ?_
      · rintro s9 w9 rfl hq9; go_wp2_with fail; exact ⟨rfl, rfl, hq9.sub (by simp)⟩
      rintro a11 s11 e w11 ⟨u11, rfl, rfl, hwf11⟩ HF12 hr; clear HR; have HR := Lib.hid hr; clear hr; obtain ⟨t13, HT13⟩ := hidE (tokT c s11); (try simp only [NM, reduceIte, HT13.out, bt_n] at HR); go_upto_region 4 with (fail); obtain ⟨b14, w14, hb14, hw14, HF15⟩ := HF12.boxT 4 u11; rw [hw14, hb14]; clear hw14 hb14; obtain ⟨j0, j1, j2, j3, j4⟩ := HF15.b0.t5; go_wp2_with fail; refine HF15.put HB.out u11 { kind := 14, text := u11.text } 999 (.slice none 0 0) [.row 3 (.slice A4 l4.length cp4) l4] (.inl ⟨rfl, rfl⟩) (by simp [Loc.key]) HR.out ?_ ?_
      · rintro s9 w9 rfl hq9; go_wp2_with fail; exact ⟨rfl, rfl, hq9.sub (by simp)⟩
      intro i16 s16 w16 hi16 HF17 hr; unfold kidC; clear j0 j1 j2 j3 j4; clear HR; have HR := Lib.hid hr; clear hr; obtain ⟨t18, HT18⟩ := hidE (tokT c s16); (try simp only [NM, reduceIte, HT18.out, bt_n] at HR); (go_wp2_with (at_builtin; (refine (HF17.kid1 99 i16 hi16).wpl_app rfl 3 (List.mem_cons_of_mem _ List.mem_cons_self) _ _ rfl rfl List.mem_cons_self hi16 rfl (by (try simp only [List.length_append, List.length_nil, List.length_cons]); omega) (L' := []) (by simp [Loc.key]) ?_); intro v19 w19 HF20)); obtain ⟨A19, N19, cp19, hv19, hN19⟩ := own_form2 HF20.r0; subst hv19; go_wp2_with fail; go_roundg m4
      case measure => omega
      case rel => exact ⟨s16, (l4 ++ [i16]), HF20.sub (L' := [.row 3 (.slice A19 N19 cp19) (l4 ++ [i16])]) (by simp), by (try simp only [List.length_append, List.length_nil, List.length_cons]); omega, HR.out⟩
theorem sig_any (hS : TokSt c.l) (n : Nat) (M : ∀ (t : Tok) (name : ByteArray), Meth c 141 #[.pointer (some ⟨c.bp, 0, none⟩), .agg #[.int .i64 t.kind, .string t.text, .int .i64 t.n, .int .i64 t.line, .int .i64 t.col], .string name] (sigOf (c.l.map Tok.bt) n name) vNum) : Meth c 148 #[.pointer (some ⟨c.bp, 0, none⟩)] (sig (c.l.map Tok.bt) n) vNum := by
  (refine Meth.mk fun E s0 r W HF1 hb hr ho => ?_); have HN := Lib.hid (next_any hS); (have HK := Lib.hid (fun k => kind_any hS k)); (have HWt := Lib.hid (fun k x => want_any hS k x)); have HDf := Lib.hid (defined_any hS); have HSo := Lib.hid M; have HB := Lib.hid hb; have HO := Lib.hid ho; clear hb ho; have HR := Lib.hid hr; clear hr; obtain ⟨t2, HT2⟩ := hidE (tokT c s0); have hr := HR.out; clear HR; unfold sig at hr; have HR := Lib.hid hr; clear hr; (try simp only [NM, reduceIte, HT2.out, bt_n] at HR); have fld0 := fldT0; have fld1 := fldT1; have fld2 := fldT2; go_enter Tryz.func148, Tryz.ntmps148; go_wp2_with fail
  with_reducible refine (HF1.tok).mono ?_
  rintro e w3 ⟨rfl, HF4⟩; rw [HT2.out]; go_upto_region 2 with (fail); obtain ⟨b5, w5, hb5, hw5, HF6⟩ := HF4.boxT 3 t2; rw [hw5, hb5]; clear hw5 hb5; obtain ⟨j0, j1, j2, j3, j4⟩ := HF6.b0.t5; go_upto_region 2 with (fail); refine wp_region_till [] (fun X => X.cell? ⟨b5, 0, none⟩ = some (.int .i64 t2.kind) ∧ X.cell? ⟨b5, 1, none⟩ = some (.string t2.text) ∧ X.cell? ⟨b5, 2, none⟩ = some (.int .i64 t2.n) ∧ X.cell? ⟨b5, 3, none⟩ = some (.int .i64 t2.line) ∧ X.cell? ⟨b5, 4, none⟩ = some (.int .i64 t2.col)) (by kernel_rfl) ?_ (fun hE => ?_)
  · exact ⟨j0, j1, j2, j3, j4⟩
  (have hS := hE (by kernel_rfl)); obtain ⟨w7, hw7⟩ : ∃ x, World.drew w5 = x := ⟨_, rfl⟩; rw [hw7] at hS ⊢; have HF8 := HF6.drew; rw [hw7] at HF8; clear hE hw7; clear j0 j1 j2 j3 j4; obtain ⟨j0, j1, j2, j3, j4⟩ := HF8.b0.t5; refine wpAnyT_pure (i := 0) (v := ?v2_0_9) rfl (by kernel_rfl) (fun _ _ _ h => h) (Or.inl ⟨by rfl, ?y2_0_9⟩) (fun _ => hS) ?_
  case y2_0_9 => (intro w hSw; go_simp; try with_reducible rfl)
  (try simp only [AP]); refine wpAnyT_take (i := 1) (v := ?v2_1_10) rfl (by kernel_rfl) (fun _ _ _ h => h) (Or.inl ⟨by rfl, ?y2_1_10⟩) hS ?_
  case y2_1_10 => (intro w hSw; (try dsimp only at hSw); go_simp; try with_reducible rfl)
  (try simp only [AP]); refine wpAnyT_pure (i := 2) (v := ?v2_2_11) rfl (by kernel_rfl) (fun _ _ _ h => h) (Or.inl ⟨by rfl, ?y2_2_11⟩) (fun _ => hS) ?_
  case y2_2_11 => (intro w hSw; go_simp; try with_reducible rfl)
  (try simp only [AP]); (refine wpAnyT_ready (rs := [3]) (by kernel_rfl) rfl ?_); (refine AllT.cons rfl (fun K hK => ?_) AllT.nil); go_simp
  with_reducible refine HF8.bind HDf.out HB.out HR.out HO.out ?_ ?_
  · rintro s9 w9 rfl hq9; go_wp2_with fail; exact ⟨rfl, rfl, hq9.sub (by simp)⟩
  intro a12 s12 e w12 hv HF13 hr; obtain rfl := hv; clear j0 j1 j2 j3 j4; clear HR; have HR := Lib.hid hr; clear hr; obtain ⟨t14, HT14⟩ := hidE (tokT c s12); (try simp only [NM, reduceIte, HT14.out, bt_n] at HR); obtain ⟨j0, j1, j2, j3, j4⟩ := HF13.b0.t5; go_wp2_with fail; refine hK.out _ _ (fun _ => ?_) (fun hE => ?_)
  · exact ⟨j0, j1, j2, j3, j4⟩
  clear hS; (have hS := hE (by kernel_rfl)); clear hK K hE; (try simp only [AP]); (refine wpAnyT_ready (rs := [4]) (by kernel_rfl) rfl ?_); (refine AllT.cons rfl (fun K hK => ?_) AllT.nil); go_simp
  with_reducible refine HF13.tail (HSo.out t2 _) HB.out HR.out HO.out ?_ ?_
  · rintro s9 w9 rfl hq9; go_wp2_with fail; exact ⟨rfl, rfl, hq9.sub (by simp)⟩
  rintro a15 s15 e w15 ⟨rfl, hi15⟩ HF16 hr; unfold kidC; clear j0 j1 j2 j3 j4; clear HR; have HR := Lib.hid hr; clear hr; obtain ⟨j0, j1, j2, j3, j4⟩ := HF16.b0.t5; go_wp2_with fail; refine hK.out _ _ (fun _ => ?_) (fun hE => ?_)
  · exact ⟨j0, j1, j2, j3, j4⟩
  clear hS; (have hS := hE (by kernel_rfl)); clear hK K hE; (try simp only [AP]); (refine wpAnyT_ready (rs := [5]) (by kernel_rfl) rfl ?_); (refine AllT.cons rfl (fun K hK => ?_) AllT.nil); go_simp; refine hK.out _ _ (fun _ => ?_) (fun hE => ?_)
  · exact ⟨j0, j1, j2, j3, j4⟩
  clear hS; (have hS := hE (by kernel_rfl)); clear hK K hE; (try simp only [AP]); (refine wpAnyT_done (by kernel_rfl) ?_ _); clear hS; have hr := HR.out; clear HR; subst hr; go_wp2_with fail; go_ret; exact ⟨⟨rfl, hi15⟩, HF16.sub (by simp)⟩
theorem recType_any (hS : TokSt c.l) (n : Nat) (hn : n ≤ 1000000) (ty : Pm Nat) (M : Meth c 154 #[.pointer (some ⟨c.bp, 0, none⟩)] ty vNum) (t : Tok) : Meth c 159 #[.pointer (some ⟨c.bp, 0, none⟩), .agg #[.int .i64 t.kind, .string t.text, .int .i64 t.n, .int .i64 t.line, .int .i64 t.col]] (recType (c.l.map Tok.bt) n ty) vNum := by
  (refine Meth.mk fun E s0 r W HF1 hb hr ho => ?_); have HN := Lib.hid (next_any hS); (have HK := Lib.hid (fun k => kind_any hS k)); (have HWt := Lib.hid (fun k x => want_any hS k x)); have HTl := Lib.hid (tail_any hS); have HTy := Lib.hid M; have HB := Lib.hid hb; have HO := Lib.hid ho; clear hb ho; have HR := Lib.hid hr; clear hr; obtain ⟨t2, HT2⟩ := hidE (tokT c s0); have hr := HR.out; clear HR; unfold recType at hr; have HR := Lib.hid hr; clear hr; (try simp only [NM, reduceIte, HT2.out, bt_n] at HR); have fld0 := fldT0; have fld1 := fldT1; have fld2 := fldT2; go_enter Tryz.func159, Tryz.ntmps159; go_upto_region 1 with (fail); obtain ⟨b3, w3, hb3, hw3, HF4⟩ := HF1.boxT 3 t; rw [hw3, hb3]; clear hw3 hb3; obtain ⟨j0, j1, j2, j3, j4⟩ := HF4.b0.t5; have HF5 := HF4.nil 5; clear j0 j1 j2 j3 j4; obtain ⟨j0, j1, j2, j3, j4⟩ := HF5.b1.t5; have hr := HR.out; clear HR; obtain ⟨F6, g6, hFF6, hGG6, hr⟩ := split_loop hr; have HFF6 := Lib.hid hFF6; have HGG6 := Lib.hid hGG6; have HR := Lib.hid hr; clear hr hFF6 hGG6; (have HF7 := HF5.sub (L' := [.row 5 (.slice none 0 0) [], .box 3 b3 59 (TC t)]) (by simp)); clear HF5; clear j0 j1 j2 j3 j4; go_wp2_with fail; go_loopg [5] n (fun gk x5 wr => ∃ (s5 : Ps) (l5 : List Nat), Fr c E 0 [.row 5 x5 l5, .box 3 b3 59 (TC t)] s5 wr ∧ l5.length + gk ≤ 1000000 ∧ Hid ((loop F6 gk l5 >>= g6) s5 = r))
  case atStart => exact ⟨s0, [], HF7.out, by (try simp only [List.length_nil, List.length_cons]); omega, HR.out⟩
  case round =>
    obtain ⟨w6, rfl⟩ : ∃ w, w = wr := ⟨_, rfl⟩; clear HR HF7; obtain ⟨s6, l6, HF8, hl6, hr⟩ := hrel; obtain ⟨A6, cp6, hv6, _⟩ := own_formP HF8.r0; subst hv6; obtain _ | m6 := gk
    · exact absurd (loop_zero hr.out) HO.out
    have HR := Lib.hid (loop_step hr.out HFF6.out); clear hr; obtain ⟨t9, HT9⟩ := hidE (tokT c s6); (try simp only [NM, reduceIte, HT9.out, bt_n] at HR); obtain ⟨j0, j1, j2, j3, j4⟩ := HF8.b1.t5; obtain ⟨q10, hq10⟩ : ∃ q, isB t9.bt 5 ⟨#[125]⟩ = q := ⟨_, rfl⟩; have HI10 := Lib.hid (HF8.is 5 ⟨#[125]⟩); rw [HT9.out, hq10] at HI10; (try simp only [NM, reduceIte, hq10, bt_n] at HR); clear hq10; go_wp2_with fail
    with_reducible refine HI10.out.mono ?_
    rintro e w10 ⟨rfl, HF11⟩; clear j0 j1 j2 j3 j4; obtain ⟨j0, j1, j2, j3, j4⟩ := HF11.b1.t5; cases q10
    · (try simp only [NM, reduceIte, bt_n] at HR); obtain ⟨q12, hq12⟩ : ∃ q, isB t9.bt 4 ⟨#[124]⟩ = q := ⟨_, rfl⟩; have HI12 := Lib.hid (HF11.iskey ⟨#[124]⟩); rw [HT9.out, hq12] at HI12; (try simp only [NM, reduceIte, hq12, bt_n] at HR); clear hq12; go_wp2_with fail
      with_reducible refine HI12.out.mono ?_
      rintro e w12 ⟨rfl, HF13⟩; clear j0 j1 j2 j3 j4; obtain ⟨j0, j1, j2, j3, j4⟩ := HF13.b1.t5; cases q12
      · (try simp only [NM, reduceIte, bt_n] at HR); by_cases h06 : 0 < l6.length
        · (have hd6 : decide (0 < l6.length) = true := by simpa using h06); (try simp only [NM, reduceIte, h06, bt_n] at HR); go_wp2_with fail
          with_reducible refine HF13.bind (HWt.out 5 ⟨#[44]⟩) HB.out HR.out HO.out ?_ ?_
          · rintro s9 w9 rfl hq9; go_wp2_with fail; exact ⟨rfl, rfl, hq9.sub (by simp)⟩
          rintro a14 s14 e w14 ⟨u14, rfl, rfl, hwf14⟩ HF15 hr; clear j0 j1 j2 j3 j4; clear HR; have HR := Lib.hid hr; clear hr; obtain ⟨t16, HT16⟩ := hidE (tokT c s14); (try simp only [NM, reduceIte, HT16.out, bt_n] at HR); obtain ⟨j0, j1, j2, j3, j4⟩ := HF15.b1.t5; go_wp2_with fail
          with_reducible refine HF15.bind (HK.out 0) HB.out HR.out HO.out ?_ ?_
          · rintro s9 w9 rfl hq9; go_wp2_with fail; exact ⟨rfl, rfl, hq9.sub (by simp)⟩
          rintro a17 s17 e w17 ⟨u17, rfl, rfl, hwf17⟩ HF18 hr; clear j0 j1 j2 j3 j4; clear HR; have HR := Lib.hid hr; clear hr; obtain ⟨t19, HT19⟩ := hidE (tokT c s17); (try simp only [NM, reduceIte, HT19.out, bt_n] at HR); obtain ⟨j0, j1, j2, j3, j4⟩ := HF18.b1.t5; go_upto_region 6 with (fail); obtain ⟨b20, w20, hb20, hw20, HF21⟩ := HF18.boxT 6 u17; rw [hw20, hb20]; clear hw20 hb20; clear j0 j1 j2 j3 j4; obtain ⟨j5, j6, j7, j8, j9⟩ := HF21.b0.t5; obtain ⟨j0, j1, j2, j3, j4⟩ := HF21.b2.t5; go_wp2_with fail
          with_reducible refine HF21.bind (HWt.out 4 ⟨#[58]⟩) HB.out HR.out HO.out ?_ ?_
          · rintro s9 w9 rfl hq9; go_wp2_with fail; exact ⟨rfl, rfl, hq9.sub (by simp)⟩
          rintro a22 s22 e w22 ⟨u22, rfl, rfl, hwf22⟩ HF23 hr; clear j5 j6 j7 j8 j9 j0 j1 j2 j3 j4; clear HR; have HR := Lib.hid hr; clear hr; obtain ⟨t24, HT24⟩ := hidE (tokT c s22); (try simp only [NM, reduceIte, HT24.out, bt_n] at HR); obtain ⟨j5, j6, j7, j8, j9⟩ := HF23.b0.t5; obtain ⟨j0, j1, j2, j3, j4⟩ := HF23.b2.t5; go_upto_region 7 with (fail); refine wp_region_till [] (fun X => X.cell? ⟨b20, 0, none⟩ = some (.int .i64 u17.kind) ∧ X.cell? ⟨b20, 1, none⟩ = some (.string u17.text) ∧ X.cell? ⟨b20, 2, none⟩ = some (.int .i64 u17.n) ∧ X.cell? ⟨b20, 3, none⟩ = some (.int .i64 u17.line) ∧ X.cell? ⟨b20, 4, none⟩ = some (.int .i64 u17.col) ∧ X.cell? ⟨b3, 0, none⟩ = some (.int .i64 t.kind) ∧ X.cell? ⟨b3, 1, none⟩ = some (.string t.text) ∧ X.cell? ⟨b3, 2, none⟩ = some (.int .i64 t.n) ∧ X.cell? ⟨b3, 3, none⟩ = some (.int .i64 t.line) ∧ X.cell? ⟨b3, 4, none⟩ = some (.int .i64 t.col)) (by kernel_rfl) ?_ (fun hE => ?_)
          · exact ⟨j5, j6, j7, j8, j9, j0, j1, j2, j3, j4⟩
          (have hS := hE (by kernel_rfl)); obtain ⟨w25, hw25⟩ : ∃ x, World.drew w22 = x := ⟨_, rfl⟩; rw [hw25] at hS ⊢; have HF26 := HF23.drew; rw [hw25] at HF26; clear hE hw25; clear j5 j6 j7 j8 j9 j0 j1 j2 j3 j4; obtain ⟨j5, j6, j7, j8, j9⟩ := HF26.b0.t5; obtain ⟨j0, j1, j2, j3, j4⟩ := HF26.b2.t5; refine wpAnyT_pure (i := 0) (v := ?v7_0_27) rfl (by kernel_rfl) (fun _ _ _ h => h) (Or.inl ⟨by rfl, ?y7_0_27⟩) (fun _ => hS) ?_
          case y7_0_27 => (intro w hSw; go_simp; try with_reducible rfl)
          (try simp only [AP]); refine wpAnyT_pure (i := 1) (v := ?v7_1_28) rfl (by kernel_rfl) (fun _ _ _ h => h) (Or.inl ⟨by rfl, ?y7_1_28⟩) (fun _ => hS) ?_
          case y7_1_28 => (intro w hSw; go_simp; try with_reducible rfl)
          (try simp only [AP]); refine wpAnyT_take (i := 2) (v := ?v7_2_29) rfl (by kernel_rfl) (fun _ _ _ h => h) (Or.inl ⟨by rfl, ?y7_2_29⟩) hS ?_
          case y7_2_29 => (intro w hSw; (try dsimp only at hSw); go_simp; try with_reducible rfl)
          (try simp only [AP]); refine wpAnyT_pure (i := 3) (v := ?v7_3_30) rfl (by kernel_rfl) (fun _ _ _ h => h) (Or.inl ⟨by rfl, ?y7_3_30⟩) (fun _ => hS) ?_
          case y7_3_30 => (intro w hSw; go_simp; try with_reducible rfl)
          (try simp only [AP]); refine wpAnyT_take (i := 4) (v := ?v7_4_31) rfl (by kernel_rfl) (fun _ _ _ h => h) (Or.inl ⟨by rfl, ?y7_4_31⟩) hS ?_
          case y7_4_31 => (intro w hSw; (try dsimp only at hSw); go_simp; try with_reducible rfl)
          (try simp only [AP]); refine wpAnyT_pure (i := 5) (v := ?v7_5_32) rfl (by kernel_rfl) (fun _ _ _ h => h) (Or.inl ⟨by rfl, ?y7_5_32⟩) (fun _ => hS) ?_
          case y7_5_32 => (intro w hSw; go_simp; try with_reducible rfl)
          (try simp only [AP]); (refine wpAnyT_ready (rs := [6]) (by kernel_rfl) rfl ?_); (refine AllT.cons rfl (fun K hK => ?_) AllT.nil); go_simp
          with_reducible refine HF26.bind HTy.out HB.out HR.out HO.out ?_ ?_
          · rintro s9 w9 rfl hq9; go_wp2_with fail; exact ⟨rfl, rfl, hq9.sub (by simp)⟩
          rintro a33 s33 e w33 ⟨rfl, hi33⟩ HF34 hr; unfold kidC; clear j5 j6 j7 j8 j9 j0 j1 j2 j3 j4; clear HR; have HR := Lib.hid hr; clear hr; obtain ⟨t35, HT35⟩ := hidE (tokT c s33); (try simp only [NM, reduceIte, HT35.out, bt_n] at HR); obtain ⟨j5, j6, j7, j8, j9⟩ := HF34.b0.t5; obtain ⟨j0, j1, j2, j3, j4⟩ := HF34.b2.t5; go_wp2_with fail; refine hK.out _ _ (fun _ => ?_) (fun hE => ?_)
          · exact ⟨j5, j6, j7, j8, j9, j0, j1, j2, j3, j4⟩
          clear hS; (have hS := hE (by kernel_rfl)); clear hK K hE; (try simp only [AP]); (refine wpAnyT_ready (rs := [7]) (by kernel_rfl) rfl ?_); (refine AllT.cons rfl (fun K hK => ?_) AllT.nil); go_simp; refine name_world ?_; intro w36 hw36; have HF37 := HF34.kid1 97 a33 hi33; rw [← hw36] at HF37; obtain ⟨b36, hb36⟩ : ∃ b, w33.heap.size = b := ⟨_, rfl⟩; rw [hb36] at HF37 ⊢; clear hw36 hb36; clear j5 j6 j7 j8 j9 j0 j1 j2 j3 j4; obtain ⟨j5, j6, j7, j8, j9⟩ := HF37.b1.t5; obtain ⟨j0, j1, j2, j3, j4⟩ := HF37.b3.t5; refine hK.out _ _ (fun _ => ?_) (fun hE => ?_)
          · exact ⟨j5, j6, j7, j8, j9, j0, j1, j2, j3, j4⟩
          clear hS; (have hS := hE (by kernel_rfl)); clear hK K hE; (try simp only [AP]); refine wpAnyT_pure (i := 8) (v := ?v7_8_38) rfl (by kernel_rfl) (fun _ _ _ h => h) (Or.inl ⟨by rfl, ?y7_8_38⟩) (fun _ => hS) ?_
          case y7_8_38 => (intro w hSw; go_simp; try with_reducible rfl)
          (try simp only [AP]); (refine wpAnyT_ready (rs := [9]) (by kernel_rfl) rfl ?_); (refine AllT.cons rfl (fun K hK => ?_) AllT.nil); go_simp; refine HF37.put HB.out u17 { kind := 19, text := u17.text, kids := [a33] } 97 ((.slice (some ⟨b36, 0, none⟩) 1 1)) [.box 6 b20 59 (TC u17), .row 5 (.slice A6 l6.length cp6) l6, .box 3 b3 59 (TC t)] (.inr List.mem_cons_self) (by simp [Loc.key]) HR.out ?_ ?_
          · rintro s9 w9 rfl hq9; go_wp2_with fail; exact ⟨rfl, rfl, hq9.sub (by simp)⟩
          intro i39 s39 w39 hi39 HF40 hr; unfold kidC; clear j5 j6 j7 j8 j9 j0 j1 j2 j3 j4; clear HR; have HR := Lib.hid hr; clear hr; obtain ⟨t41, HT41⟩ := hidE (tokT c s39); (try simp only [NM, reduceIte, HT41.out, bt_n] at HR); obtain ⟨j5, j6, j7, j8, j9⟩ := HF40.b0.t5; obtain ⟨j0, j1, j2, j3, j4⟩ := HF40.b2.t5; go_wp2_with fail; refine hK.out _ _ (fun _ => ?_) (fun hE => ?_)
          · exact ⟨j5, j6, j7, j8, j9, j0, j1, j2, j3, j4⟩
          clear hS; (have hS := hE (by kernel_rfl)); clear hK K hE; (try simp only [AP]); (refine wpAnyT_ready (rs := [10]) (by kernel_rfl) rfl ?_); (refine AllT.cons rfl (fun K hK => ?_) AllT.nil); go_simp; refine name_world ?_; intro w42 hw42; have HF43 := HF40.kid1 98 i39 hi39; rw [← hw42] at HF43; obtain ⟨b42, hb42⟩ : ∃ b, w39.heap.size = b := ⟨_, rfl⟩; rw [hb42] at HF43 ⊢; clear hw42 hb42; clear j5 j6 j7 j8 j9 j0 j1 j2 j3 j4; obtain ⟨j5, j6, j7, j8, j9⟩ := HF43.b1.t5; obtain ⟨j0, j1, j2, j3, j4⟩ := HF43.b3.t5; refine hK.out _ _ (fun _ => ?_) (fun hE => ?_)
          · exact ⟨j5, j6, j7, j8, j9, j0, j1, j2, j3, j4⟩
          clear hS; (have hS := hE (by kernel_rfl)); clear hK K hE; (try simp only [AP]); (refine wpAnyT_ready (rs := [11]) (by kernel_rfl) rfl ?_); (refine AllT.cons rfl (fun K hK => ?_) AllT.nil); (refine HF43.st_app rfl 5 (List.mem_cons_of_mem _ (List.mem_cons_of_mem _ List.mem_cons_self)) _ _ rfl rfl List.mem_cons_self hi39 rfl (by (try simp only [List.length_append, List.length_nil, List.length_cons]); omega) (L' := [.box 6 b20 59 (TC u17), .box 3 b3 59 (TC t)]) (by simp [Loc.key]) ?_); intro v44 w44 HF45; obtain ⟨A44, N44, cp44, hv44, hN44⟩ := own_form2 HF45.r0; subst hv44; clear j5 j6 j7 j8 j9 j0 j1 j2 j3 j4; obtain ⟨j5, j6, j7, j8, j9⟩ := HF45.b1.t5; obtain ⟨j0, j1, j2, j3, j4⟩ := HF45.b2.t5; refine hK.out _ _ (fun _ => ?_) (fun hE => ?_)
          · exact ⟨j5, j6, j7, j8, j9, j0, j1, j2, j3, j4⟩
          clear hS; (have hS := hE (by kernel_rfl)); clear hK K hE; (try simp only [AP]); (refine wpAnyT_ready (rs := [12]) (by kernel_rfl) rfl ?_); (refine AllT.cons rfl (fun K hK => ?_) AllT.nil); go_simp; refine hK.out _ _ (fun _ => ?_) (fun hE => ?_)
          · exact ⟨j5, j6, j7, j8, j9, j0, j1, j2, j3, j4⟩
          clear hS; (have hS := hE (by kernel_rfl)); clear hK K hE; (try simp only [AP]); (refine wpAnyT_done (by kernel_rfl) ?_ _); clear hS; clear j5 j6 j7 j8 j9 j0 j1 j2 j3 j4; go_wp2_with fail; go_roundg m6
          case measure => omega
          case rel => exact ⟨s39, (l6 ++ [i39]), HF45.sub (L' := [.row 5 (.slice A44 N44 cp44) (l6 ++ [i39]), .box 3 b3 59 (TC t)]) (by simp), by (try simp only [List.length_append, List.length_nil, List.length_cons]); omega, HR.out⟩
        · (have hd6 : decide (0 < l6.length) = false := by simpa using h06); (try simp only [NM, reduceIte, h06, bt_n] at HR); go_wp2_with fail
          with_reducible refine HF13.bind (HK.out 0) HB.out HR.out HO.out ?_ ?_
          · rintro s9 w9 rfl hq9; go_wp2_with fail; exact ⟨rfl, rfl, hq9.sub (by simp)⟩
          rintro a46 s46 e w46 ⟨u46, rfl, rfl, hwf46⟩ HF47 hr; clear j0 j1 j2 j3 j4; clear HR; have HR := Lib.hid hr; clear hr; obtain ⟨t48, HT48⟩ := hidE (tokT c s46); (try simp only [NM, reduceIte, HT48.out, bt_n] at HR); obtain ⟨j0, j1, j2, j3, j4⟩ := HF47.b1.t5; go_upto_region 6 with (fail); obtain ⟨b49, w49, hb49, hw49, HF50⟩ := HF47.boxT 6 u46; rw [hw49, hb49]; clear hw49 hb49; clear j0 j1 j2 j3 j4; obtain ⟨j5, j6, j7, j8, j9⟩ := HF50.b0.t5; obtain ⟨j0, j1, j2, j3, j4⟩ := HF50.b2.t5; go_wp2_with fail
          with_reducible refine HF50.bind (HWt.out 4 ⟨#[58]⟩) HB.out HR.out HO.out ?_ ?_
          · rintro s9 w9 rfl hq9; go_wp2_with fail; exact ⟨rfl, rfl, hq9.sub (by simp)⟩
          rintro a51 s51 e w51 ⟨u51, rfl, rfl, hwf51⟩ HF52 hr; clear j5 j6 j7 j8 j9 j0 j1 j2 j3 j4; clear HR; have HR := Lib.hid hr; clear hr; obtain ⟨t53, HT53⟩ := hidE (tokT c s51); (try simp only [NM, reduceIte, HT53.out, bt_n] at HR); obtain ⟨j5, j6, j7, j8, j9⟩ := HF52.b0.t5; obtain ⟨j0, j1, j2, j3, j4⟩ := HF52.b2.t5; go_upto_region 7 with (fail); refine wp_region_till [] (fun X => X.cell? ⟨b49, 0, none⟩ = some (.int .i64 u46.kind) ∧ X.cell? ⟨b49, 1, none⟩ = some (.string u46.text) ∧ X.cell? ⟨b49, 2, none⟩ = some (.int .i64 u46.n) ∧ X.cell? ⟨b49, 3, none⟩ = some (.int .i64 u46.line) ∧ X.cell? ⟨b49, 4, none⟩ = some (.int .i64 u46.col) ∧ X.cell? ⟨b3, 0, none⟩ = some (.int .i64 t.kind) ∧ X.cell? ⟨b3, 1, none⟩ = some (.string t.text) ∧ X.cell? ⟨b3, 2, none⟩ = some (.int .i64 t.n) ∧ X.cell? ⟨b3, 3, none⟩ = some (.int .i64 t.line) ∧ X.cell? ⟨b3, 4, none⟩ = some (.int .i64 t.col)) (by kernel_rfl) ?_ (fun hE => ?_)
          · exact ⟨j5, j6, j7, j8, j9, j0, j1, j2, j3, j4⟩
          (have hS := hE (by kernel_rfl)); obtain ⟨w54, hw54⟩ : ∃ x, World.drew w51 = x := ⟨_, rfl⟩; rw [hw54] at hS ⊢; have HF55 := HF52.drew; rw [hw54] at HF55; clear hE hw54; clear j5 j6 j7 j8 j9 j0 j1 j2 j3 j4; obtain ⟨j5, j6, j7, j8, j9⟩ := HF55.b0.t5; obtain ⟨j0, j1, j2, j3, j4⟩ := HF55.b2.t5; refine wpAnyT_pure (i := 0) (v := ?v7_0_56) rfl (by kernel_rfl) (fun _ _ _ h => h) (Or.inl ⟨by rfl, ?y7_0_56⟩) (fun _ => hS) ?_
          case y7_0_56 => (intro w hSw; go_simp; try with_reducible rfl)
          (try simp only [AP]); refine wpAnyT_pure (i := 1) (v := ?v7_1_57) rfl (by kernel_rfl) (fun _ _ _ h => h) (Or.inl ⟨by rfl, ?y7_1_57⟩) (fun _ => hS) ?_
          case y7_1_57 => (intro w hSw; go_simp; try with_reducible rfl)
          (try simp only [AP]); refine wpAnyT_take (i := 2) (v := ?v7_2_58) rfl (by kernel_rfl) (fun _ _ _ h => h) (Or.inl ⟨by rfl, ?y7_2_58⟩) hS ?_
          case y7_2_58 => (intro w hSw; (try dsimp only at hSw); go_simp; try with_reducible rfl)
          (try simp only [AP]); refine wpAnyT_pure (i := 3) (v := ?v7_3_59) rfl (by kernel_rfl) (fun _ _ _ h => h) (Or.inl ⟨by rfl, ?y7_3_59⟩) (fun _ => hS) ?_
          case y7_3_59 => (intro w hSw; go_simp; try with_reducible rfl)
          (try simp only [AP]); refine wpAnyT_take (i := 4) (v := ?v7_4_60) rfl (by kernel_rfl) (fun _ _ _ h => h) (Or.inl ⟨by rfl, ?y7_4_60⟩) hS ?_
          case y7_4_60 => (intro w hSw; (try dsimp only at hSw); go_simp; try with_reducible rfl)
          (try simp only [AP]); refine wpAnyT_pure (i := 5) (v := ?v7_5_61) rfl (by kernel_rfl) (fun _ _ _ h => h) (Or.inl ⟨by rfl, ?y7_5_61⟩) (fun _ => hS) ?_
          case y7_5_61 => (intro w hSw; go_simp; try with_reducible rfl)
          (try simp only [AP]); (refine wpAnyT_ready (rs := [6]) (by kernel_rfl) rfl ?_); (refine AllT.cons rfl (fun K hK => ?_) AllT.nil); go_simp
          with_reducible refine HF55.bind HTy.out HB.out HR.out HO.out ?_ ?_
          · rintro s9 w9 rfl hq9; go_wp2_with fail; exact ⟨rfl, rfl, hq9.sub (by simp)⟩
          rintro a62 s62 e w62 ⟨rfl, hi62⟩ HF63 hr; unfold kidC; clear j5 j6 j7 j8 j9 j0 j1 j2 j3 j4; clear HR; have HR := Lib.hid hr; clear hr; obtain ⟨t64, HT64⟩ := hidE (tokT c s62); (try simp only [NM, reduceIte, HT64.out, bt_n] at HR); obtain ⟨j5, j6, j7, j8, j9⟩ := HF63.b0.t5; obtain ⟨j0, j1, j2, j3, j4⟩ := HF63.b2.t5; go_wp2_with fail; refine hK.out _ _ (fun _ => ?_) (fun hE => ?_)
          · exact ⟨j5, j6, j7, j8, j9, j0, j1, j2, j3, j4⟩
          clear hS; (have hS := hE (by kernel_rfl)); clear hK K hE; (try simp only [AP]); (refine wpAnyT_ready (rs := [7]) (by kernel_rfl) rfl ?_); (refine AllT.cons rfl (fun K hK => ?_) AllT.nil); go_simp; refine name_world ?_; intro w65 hw65; have HF66 := HF63.kid1 97 a62 hi62; rw [← hw65] at HF66; obtain ⟨b65, hb65⟩ : ∃ b, w62.heap.size = b := ⟨_, rfl⟩; rw [hb65] at HF66 ⊢; clear hw65 hb65; clear j5 j6 j7 j8 j9 j0 j1 j2 j3 j4; obtain ⟨j5, j6, j7, j8, j9⟩ := HF66.b1.t5; obtain ⟨j0, j1, j2, j3, j4⟩ := HF66.b3.t5; refine hK.out _ _ (fun _ => ?_) (fun hE => ?_)
          · exact ⟨j5, j6, j7, j8, j9, j0, j1, j2, j3, j4⟩
          clear hS; (have hS := hE (by kernel_rfl)); clear hK K hE; (try simp only [AP]); refine wpAnyT_pure (i := 8) (v := ?v7_8_67) rfl (by kernel_rfl) (fun _ _ _ h => h) (Or.inl ⟨by rfl, ?y7_8_67⟩) (fun _ => hS) ?_
          case y7_8_67 => (intro w hSw; go_simp; try with_reducible rfl)
          (try simp only [AP]); (refine wpAnyT_ready (rs := [9]) (by kernel_rfl) rfl ?_); (refine AllT.cons rfl (fun K hK => ?_) AllT.nil); go_simp; refine HF66.put HB.out u46 { kind := 19, text := u46.text, kids := [a62] } 97 ((.slice (some ⟨b65, 0, none⟩) 1 1)) [.box 6 b49 59 (TC u46), .row 5 (.slice A6 l6.length cp6) l6, .box 3 b3 59 (TC t)] (.inr List.mem_cons_self) (by simp [Loc.key]) HR.out ?_ ?_
          · rintro s9 w9 rfl hq9; go_wp2_with fail; exact ⟨rfl, rfl, hq9.sub (by simp)⟩
          intro i68 s68 w68 hi68 HF69 hr; unfold kidC; clear j5 j6 j7 j8 j9 j0 j1 j2 j3 j4; clear HR; have HR := Lib.hid hr; clear hr; obtain ⟨t70, HT70⟩ := hidE (tokT c s68); (try simp only [NM, reduceIte, HT70.out, bt_n] at HR); obtain ⟨j5, j6, j7, j8, j9⟩ := HF69.b0.t5; obtain ⟨j0, j1, j2, j3, j4⟩ := HF69.b2.t5; go_wp2_with fail; refine hK.out _ _ (fun _ => ?_) (fun hE => ?_)
          · exact ⟨j5, j6, j7, j8, j9, j0, j1, j2, j3, j4⟩
          clear hS; (have hS := hE (by kernel_rfl)); clear hK K hE; (try simp only [AP]); (refine wpAnyT_ready (rs := [10]) (by kernel_rfl) rfl ?_); (refine AllT.cons rfl (fun K hK => ?_) AllT.nil); go_simp; refine name_world ?_; intro w71 hw71; have HF72 := HF69.kid1 98 i68 hi68; rw [← hw71] at HF72; obtain ⟨b71, hb71⟩ : ∃ b, w68.heap.size = b := ⟨_, rfl⟩; rw [hb71] at HF72 ⊢; clear hw71 hb71; clear j5 j6 j7 j8 j9 j0 j1 j2 j3 j4; obtain ⟨j5, j6, j7, j8, j9⟩ := HF72.b1.t5; obtain ⟨j0, j1, j2, j3, j4⟩ := HF72.b3.t5; refine hK.out _ _ (fun _ => ?_) (fun hE => ?_)
          · exact ⟨j5, j6, j7, j8, j9, j0, j1, j2, j3, j4⟩
          clear hS; (have hS := hE (by kernel_rfl)); clear hK K hE; (try simp only [AP]); (refine wpAnyT_ready (rs := [11]) (by kernel_rfl) rfl ?_); (refine AllT.cons rfl (fun K hK => ?_) AllT.nil); (refine HF72.st_app rfl 5 (List.mem_cons_of_mem _ (List.mem_cons_of_mem _ List.mem_cons_self)) _ _ rfl rfl List.mem_cons_self hi68 rfl (by (try simp only [List.length_append, List.length_nil, List.length_cons]); omega) (L' := [.box 6 b49 59 (TC u46), .box 3 b3 59 (TC t)]) (by simp [Loc.key]) ?_); intro v73 w73 HF74; obtain ⟨A73, N73, cp73, hv73, hN73⟩ := own_form2 HF74.r0; subst hv73; clear j5 j6 j7 j8 j9 j0 j1 j2 j3 j4; obtain ⟨j5, j6, j7, j8, j9⟩ := HF74.b1.t5; obtain ⟨j0, j1, j2, j3, j4⟩ := HF74.b2.t5; refine hK.out _ _ (fun _ => ?_) (fun hE => ?_)
          · exact ⟨j5, j6, j7, j8, j9, j0, j1, j2, j3, j4⟩
          clear hS; (have hS := hE (by kernel_rfl)); clear hK K hE; (try simp only [AP]); (refine wpAnyT_ready (rs := [12]) (by kernel_rfl) rfl ?_); (refine AllT.cons rfl (fun K hK => ?_) AllT.nil); go_simp; refine hK.out _ _ (fun _ => ?_) (fun hE => ?_)
          · exact ⟨j5, j6, j7, j8, j9, j0, j1, j2, j3, j4⟩
          clear hS; (have hS := hE (by kernel_rfl)); clear hK K hE; (try simp only [AP]); (refine wpAnyT_done (by kernel_rfl) ?_ _); clear hS; clear j5 j6 j7 j8 j9 j0 j1 j2 j3 j4; go_wp2_with fail; go_roundg m6
          case measure => omega
          case rel => exact ⟨s68, (l6 ++ [i68]), HF74.sub (L' := [.row 5 (.slice A73 N73 cp73) (l6 ++ [i68]), .box 3 b3 59 (TC t)]) (by simp), by (try simp only [List.length_append, List.length_nil, List.length_cons]); omega, HR.out⟩
      · (try simp only [NM, reduceIte, bt_n] at HR); (try simp only [NM, reduceIte, HGG6.out, bt_n] at HR); (try simp only [NM, reduceIte, HT9.out, bt_n] at HR); obtain ⟨q75, hq75⟩ : ∃ q, isB t9.bt 4 ⟨#[124]⟩ = q := ⟨_, rfl⟩; have HI75 := Lib.hid (HF13.iskey ⟨#[124]⟩); rw [HT9.out, hq75] at HI75; (try simp only [NM, reduceIte, hq75, bt_n] at HR); clear hq75; go_wp2_with fail
        with_reducible refine HI75.out.mono ?_
        rintro e w75 ⟨rfl, HF76⟩; clear j0 j1 j2 j3 j4; obtain ⟨j0, j1, j2, j3, j4⟩ := HF76.b1.t5; cases q75
        · (try simp only [NM, reduceIte, bt_n] at HR); go_wp2_with fail
          with_reducible refine HF76.bind (HWt.out 5 ⟨#[125]⟩) HB.out HR.out HO.out ?_ ?_
          · rintro s9 w9 rfl hq9; go_wp2_with fail; exact ⟨rfl, rfl, hq9.sub (by simp)⟩
          rintro a77 s77 e w77 ⟨u77, rfl, rfl, hwf77⟩ HF78 hr; clear j0 j1 j2 j3 j4; clear HR; have HR := Lib.hid hr; clear hr; obtain ⟨t79, HT79⟩ := hidE (tokT c s77); (try simp only [NM, reduceIte, HT79.out, bt_n] at HR); obtain ⟨j0, j1, j2, j3, j4⟩ := HF78.b1.t5; go_wp2_with fail; refine HF78.putT HB.out t { kind := 17, kids := l6 } 5 ((.slice A6 l6.length cp6)) [.box 3 b3 59 (TC t)] (.inr List.mem_cons_self) (by simp [Loc.key]) HR.out ?_ ?_
          · rintro s9 w9 rfl hq9; go_wp2_with fail; exact ⟨rfl, rfl, hq9.sub (by simp)⟩
          intro i80 s80 w80 hi80 HF81 hr; unfold kidC; clear j0 j1 j2 j3 j4; clear HR; have HR := Lib.hid hr; clear hr; obtain ⟨j0, j1, j2, j3, j4⟩ := HF81.b0.t5; have hr := HR.out; clear HR; subst hr; go_wp2_with fail; go_ret; exact ⟨⟨rfl, hi80⟩, HF81.sub (by simp)⟩
        · (try simp only [NM, reduceIte, bt_n] at HR); go_wp2_with fail
          with_reducible refine HF76.bind HN.out HB.out HR.out HO.out ?_ ?_
          · rintro s9 w9 rfl hq9; go_wp2_with fail; exact ⟨rfl, rfl, hq9.sub (by simp)⟩
          rintro a82 s82 e w82 ⟨u82, rfl, rfl, hwf82⟩ HF83 hr; clear j0 j1 j2 j3 j4; clear HR; have HR := Lib.hid hr; clear hr; obtain ⟨t84, HT84⟩ := hidE (tokT c s82); (try simp only [NM, reduceIte, HT84.out, bt_n] at HR); obtain ⟨j0, j1, j2, j3, j4⟩ := HF83.b1.t5; go_wp2_with fail
          with_reducible refine HF83.bindR 40 HTl.out HB.out HR.out HO.out ?_ ?_
          · rintro s9 w9 rfl hq9; go_wp2_with fail; exact ⟨rfl, rfl, hq9.sub (by simp)⟩
          intro l85 s85 v85 w85 hl85 HF86 hr; obtain ⟨A85, N85, cp85, hv85, hN85⟩ := own_form2 HF86.r0; subst hv85; clear j0 j1 j2 j3 j4; clear HR; have HR := Lib.hid hr; clear hr; obtain ⟨t87, HT87⟩ := hidE (tokT c s85); (try simp only [NM, reduceIte, HT87.out, bt_n] at HR); obtain ⟨j0, j1, j2, j3, j4⟩ := HF86.b2.t5; (go_wp2_with (at_builtin; (refine HF86.wpl_appR rfl 5 (List.mem_cons_of_mem _ List.mem_cons_self) _ _ rfl rfl List.mem_cons_self rfl (by (try simp only [List.length_append, List.length_nil, List.length_cons]); omega) (L' := [.box 3 b3 59 (TC t)]) (by simp [Loc.key]) ?_); intro v88 w88 HF89)); obtain ⟨A88, N88, cp88, hv88, hN88⟩ := own_form2 HF89.r0; subst hv88; clear j0 j1 j2 j3 j4; obtain ⟨j0, j1, j2, j3, j4⟩ := HF89.b1.t5; go_wp2_with fail
          with_reducible refine HF89.bind (HWt.out 5 ⟨#[125]⟩) HB.out HR.out HO.out ?_ ?_
          · rintro s9 w9 rfl hq9; go_wp2_with fail; exact ⟨rfl, rfl, hq9.sub (by simp)⟩
          rintro a90 s90 e w90 ⟨u90, rfl, rfl, hwf90⟩ HF91 hr; clear j0 j1 j2 j3 j4; clear HR; have HR := Lib.hid hr; clear hr; obtain ⟨t92, HT92⟩ := hidE (tokT c s90); (try simp only [NM, reduceIte, HT92.out, bt_n] at HR); obtain ⟨j0, j1, j2, j3, j4⟩ := HF91.b1.t5; go_wp2_with fail; refine HF91.putT HB.out t { kind := 17, kids := (l6 ++ l85) } 5 ((.slice A88 N88 cp88)) [.box 3 b3 59 (TC t)] (.inr List.mem_cons_self) (by simp [Loc.key]) HR.out ?_ ?_
          · rintro s9 w9 rfl hq9; go_wp2_with fail; exact ⟨rfl, rfl, hq9.sub (by simp)⟩
          intro i93 s93 w93 hi93 HF94 hr; unfold kidC; clear j0 j1 j2 j3 j4; clear HR; have HR := Lib.hid hr; clear hr; obtain ⟨j0, j1, j2, j3, j4⟩ := HF94.b0.t5; have hr := HR.out; clear HR; subst hr; go_wp2_with fail; go_ret; exact ⟨⟨rfl, hi93⟩, HF94.sub (by simp)⟩
    · (try simp only [NM, reduceIte, bt_n] at HR); (try simp only [NM, reduceIte, HGG6.out, bt_n] at HR); (try simp only [NM, reduceIte, HT9.out, bt_n] at HR); obtain ⟨q95, hq95⟩ : ∃ q, isB t9.bt 4 ⟨#[124]⟩ = q := ⟨_, rfl⟩; have HI95 := Lib.hid (HF11.iskey ⟨#[124]⟩); rw [HT9.out, hq95] at HI95; (try simp only [NM, reduceIte, hq95, bt_n] at HR); clear hq95; go_wp2_with fail
      with_reducible refine HI95.out.mono ?_
      rintro e w95 ⟨rfl, HF96⟩; clear j0 j1 j2 j3 j4; obtain ⟨j0, j1, j2, j3, j4⟩ := HF96.b1.t5; cases q95
      · (try simp only [NM, reduceIte, bt_n] at HR); go_wp2_with fail
        with_reducible refine HF96.bind (HWt.out 5 ⟨#[125]⟩) HB.out HR.out HO.out ?_ ?_
        · rintro s9 w9 rfl hq9; go_wp2_with fail; exact ⟨rfl, rfl, hq9.sub (by simp)⟩
        rintro a97 s97 e w97 ⟨u97, rfl, rfl, hwf97⟩ HF98 hr; clear j0 j1 j2 j3 j4; clear HR; have HR := Lib.hid hr; clear hr; obtain ⟨t99, HT99⟩ := hidE (tokT c s97); (try simp only [NM, reduceIte, HT99.out, bt_n] at HR); obtain ⟨j0, j1, j2, j3, j4⟩ := HF98.b1.t5; go_wp2_with fail; refine HF98.putT HB.out t { kind := 17, kids := l6 } 5 ((.slice A6 l6.length cp6)) [.box 3 b3 59 (TC t)] (.inr List.mem_cons_self) (by simp [Loc.key]) HR.out ?_ ?_
        · rintro s9 w9 rfl hq9; go_wp2_with fail; exact ⟨rfl, rfl, hq9.sub (by simp)⟩
        intro i100 s100 w100 hi100 HF101 hr; unfold kidC; clear j0 j1 j2 j3 j4; clear HR; have HR := Lib.hid hr; clear hr; obtain ⟨j0, j1, j2, j3, j4⟩ := HF101.b0.t5; have hr := HR.out; clear HR; subst hr; go_wp2_with fail; go_ret; exact ⟨⟨rfl, hi100⟩, HF101.sub (by simp)⟩
      · (try simp only [NM, reduceIte, bt_n] at HR); go_wp2_with fail
        with_reducible refine HF96.bind HN.out HB.out HR.out HO.out ?_ ?_
        · rintro s9 w9 rfl hq9; go_wp2_with fail; exact ⟨rfl, rfl, hq9.sub (by simp)⟩
        rintro a102 s102 e w102 ⟨u102, rfl, rfl, hwf102⟩ HF103 hr; clear j0 j1 j2 j3 j4; clear HR; have HR := Lib.hid hr; clear hr; obtain ⟨t104, HT104⟩ := hidE (tokT c s102); (try simp only [NM, reduceIte, HT104.out, bt_n] at HR); obtain ⟨j0, j1, j2, j3, j4⟩ := HF103.b1.t5; go_wp2_with fail
        with_reducible refine HF103.bindR 40 HTl.out HB.out HR.out HO.out ?_ ?_
        · rintro s9 w9 rfl hq9; go_wp2_with fail; exact ⟨rfl, rfl, hq9.sub (by simp)⟩
        intro l105 s105 v105 w105 hl105 HF106 hr; obtain ⟨A105, N105, cp105, hv105, hN105⟩ := own_form2 HF106.r0; subst hv105; clear j0 j1 j2 j3 j4; clear HR; have HR := Lib.hid hr; clear hr; obtain ⟨t107, HT107⟩ := hidE (tokT c s105); (try simp only [NM, reduceIte, HT107.out, bt_n] at HR); obtain ⟨j0, j1, j2, j3, j4⟩ := HF106.b2.t5; (go_wp2_with (at_builtin; (refine HF106.wpl_appR rfl 5 (List.mem_cons_of_mem _ List.mem_cons_self) _ _ rfl rfl List.mem_cons_self rfl (by (try simp only [List.length_append, List.length_nil, List.length_cons]); omega) (L' := [.box 3 b3 59 (TC t)]) (by simp [Loc.key]) ?_); intro v108 w108 HF109)); obtain ⟨A108, N108, cp108, hv108, hN108⟩ := own_form2 HF109.r0; subst hv108; clear j0 j1 j2 j3 j4; obtain ⟨j0, j1, j2, j3, j4⟩ := HF109.b1.t5; go_wp2_with fail
        with_reducible refine HF109.bind (HWt.out 5 ⟨#[125]⟩) HB.out HR.out HO.out ?_ ?_
        · rintro s9 w9 rfl hq9; go_wp2_with fail; exact ⟨rfl, rfl, hq9.sub (by simp)⟩
        rintro a110 s110 e w110 ⟨u110, rfl, rfl, hwf110⟩ HF111 hr; clear j0 j1 j2 j3 j4; clear HR; have HR := Lib.hid hr; clear hr; obtain ⟨t112, HT112⟩ := hidE (tokT c s110); (try simp only [NM, reduceIte, HT112.out, bt_n] at HR); obtain ⟨j0, j1, j2, j3, j4⟩ := HF111.b1.t5; go_wp2_with fail; refine HF111.putT HB.out t { kind := 17, kids := (l6 ++ l105) } 5 ((.slice A108 N108 cp108)) [.box 3 b3 59 (TC t)] (.inr List.mem_cons_self) (by simp [Loc.key]) HR.out ?_ ?_
        · rintro s9 w9 rfl hq9; go_wp2_with fail; exact ⟨rfl, rfl, hq9.sub (by simp)⟩
        intro i113 s113 w113 hi113 HF114 hr; unfold kidC; clear j0 j1 j2 j3 j4; clear HR; have HR := Lib.hid hr; clear hr; obtain ⟨j0, j1, j2, j3, j4⟩ := HF114.b0.t5; have hr := HR.out; clear HR; subst hr; go_wp2_with fail; go_ret; exact ⟨⟨rfl, hi113⟩, HF114.sub (by simp)⟩
end
end Go.Proofs.YtcjoapmodaioiaaGreatDoor
