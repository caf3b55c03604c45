/- The parser's types, walked. -/
import Derived.Test.YtcjoapmodaioiaaGreatDoorPaC
set_option linter.unusedVariables false
set_option linter.unusedSimpArgs false
namespace Go.Proofs.YtcjoapmodaioiaaGreatDoor
open Go.RowKit Go.Shelf Pa
set_option maxRecDepth 100000
set_option maxHeartbeats 8000000

section
variable {c : Cx}
def TyAt (c : Cx) (n : Nat) : Prop := Meth c 154 #[.pointer (some ⟨c.bp, 0, none⟩)] (types (c.l.map Tok.bt) n .typ) vNum ∧ Meth c 147 #[.pointer (some ⟨c.bp, 0, none⟩)] (types (c.l.map Tok.bt) n .btype) vNum ∧ Meth c 146 #[.pointer (some ⟨c.bp, 0, none⟩)] (types (c.l.map Tok.bt) n .atype) vNum
theorem btype_step (hS : TokSt c.l) (n : Nat) (hn : n ≤ 1000000) (IH : TyAt c n) : Meth c 147 #[.pointer (some ⟨c.bp, 0, none⟩)] (types (c.l.map Tok.bt) (n + 1) .btype) vNum := by
  (refine Meth.mk fun E s0 r W HF1 hb hr ho => ?_); have HN := Lib.hid (next_any hS); (have HK := Lib.hid (fun k => kind_any hS k)); (have HWt := Lib.hid (fun k x => want_any hS k x)); have HTy := Lib.hid IH.1; have HBt := Lib.hid IH.2.1; have HAt := Lib.hid IH.2.2; simp only [Pa.types] at hr; have HB := Lib.hid hb; have HO := Lib.hid ho; clear hb ho; have HR := Lib.hid hr; clear hr; obtain ⟨t2, HT2⟩ := hidE (tokT c s0); (try simp only [NM, reduceIte, HT2.out, bt_n] at HR); have fld0 := fldT0; have fld1 := fldT1; have fld2 := fldT2; go_enter Tryz.func147, Tryz.ntmps147; go_wp2_with fail
  with_reducible refine (HF1.tok).mono ?_
  rintro e w3 ⟨rfl, HF4⟩; rw [HT2.out]; go_upto_region 2 with (fail); obtain ⟨b5, w5, hb5, hw5, HF6⟩ := HF4.boxT 3 t2; rw [hw5, hb5]; clear hw5 hb5; obtain ⟨j0, j1, j2, j3, j4⟩ := HF6.b0.t5; obtain ⟨q7, eq7⟩ : ∃ q, (t2.bt.kind == 1) = q := ⟨_, rfl⟩; (try simp only [NM, reduceIte, eq7, bt_n] at HR); have hq7 : (t2.kind == 1) = q7 := eq7; (have nq7 : (t2.kind != 1) = !q7 := by rw [bne, hq7]); clear eq7; cases q7
  · simp only [NB] at nq7; (try simp only [NM, reduceIte, bt_n] at HR); go_wp2_with fail
    with_reducible refine HF6.tail HAt.out HB.out HR.out HO.out ?_ ?_
    · rintro s9 w9 rfl hq9; go_wp2_with fail; exact ⟨rfl, rfl, hq9.sub (by simp)⟩
    rintro a8 s8 e w8 ⟨rfl, hi8⟩ HF9 hr; unfold kidC; clear j0 j1 j2 j3 j4; clear HR; have HR := Lib.hid hr; clear hr; obtain ⟨j0, j1, j2, j3, j4⟩ := HF9.b0.t5; have hr := HR.out; clear HR; subst hr; go_wp2_with fail; go_ret; exact ⟨⟨rfl, hi8⟩, HF9.sub (by simp)⟩
  · simp only [NB] at nq7; (try simp only [NM, reduceIte, bt_n] at HR); go_wp2_with fail
    with_reducible refine HF6.bind HN.out HB.out HR.out HO.out ?_ ?_
    · rintro s9 w9 rfl hq9; go_wp2_with fail; exact ⟨rfl, rfl, hq9.sub (by simp)⟩
    rintro a10 s10 e w10 ⟨u10, rfl, rfl, hwf10⟩ HF11 hr; clear j0 j1 j2 j3 j4; clear HR; have HR := Lib.hid hr; clear hr; obtain ⟨t12, HT12⟩ := hidE (tokT c s10); (try simp only [NM, reduceIte, HT12.out, bt_n] at HR); obtain ⟨j0, j1, j2, j3, j4⟩ := HF11.b0.t5; have HF13 := HF11.nil 4; clear j0 j1 j2 j3 j4; obtain ⟨j0, j1, j2, j3, j4⟩ := HF13.b1.t5; have hr := HR.out; clear HR; obtain ⟨F14, g14, hFF14, hGG14, hr⟩ := split_loop hr; have HFF14 := Lib.hid hFF14; have HGG14 := Lib.hid hGG14; have HR := Lib.hid hr; clear hr hFF14 hGG14; (have HF15 := HF13.sub (L' := [.row 4 (.slice none 0 0) [], .box 3 b5 59 (TC t2)]) (by simp)); clear HF13; clear j0 j1 j2 j3 j4; go_wp2_with fail; go_loopg [4] n (fun gk x4 wr => ∃ (s5 : Ps) (l5 : List Nat), Fr c E 0 [.row 4 x4 l5, .box 3 b5 59 (TC t2)] s5 wr ∧ l5.length + gk ≤ 1000000 ∧ Hid ((loop F14 gk l5 >>= g14) s5 = r))
    case atStart => exact ⟨s10, [], HF15.out, by (try simp only [List.length_nil, List.length_cons]); omega, HR.out⟩
    case round =>
      obtain ⟨w14, rfl⟩ : ∃ w, w = wr := ⟨_, rfl⟩; clear HR HF15; obtain ⟨s14, l14, HF16, hl14, hr⟩ := hrel; obtain ⟨A14, cp14, hv14, _⟩ := own_formP HF16.r0; subst hv14; obtain _ | m14 := gk
      · exact absurd (loop_zero hr.out) HO.out
      have HR := Lib.hid (loop_step hr.out HFF14.out); clear hr; obtain ⟨t17, HT17⟩ := hidE (tokT c s14); (try simp only [NM, reduceIte, HT17.out, bt_n] at HR); obtain ⟨j0, j1, j2, j3, j4⟩ := HF16.b1.t5; obtain ⟨q18, hq18⟩ : ∃ q, Pa.beginsType t17.bt = q := ⟨_, rfl⟩; have HI18 := Lib.hid HF16.beginsType; rw [HT17.out, hq18] at HI18; (try simp only [NM, reduceIte, hq18, bt_n] at HR); clear hq18; go_wp2_with fail
      with_reducible refine HI18.out.mono ?_
      rintro e w18 ⟨rfl, HF19⟩; clear j0 j1 j2 j3 j4; obtain ⟨j0, j1, j2, j3, j4⟩ := HF19.b1.t5; cases q18
      · (try simp only [NM, reduceIte, bt_n] at HR); (try simp only [NM, reduceIte, HGG14.out, bt_n] at HR); (try simp only [NM, reduceIte, HT17.out, bt_n] at HR); go_wp2_with fail; refine HF19.putT HB.out t2 { kind := 15, text := t2.text, kids := l14 } 4 ((.slice A14 l14.length cp14)) [.box 3 b5 59 (TC t2)] (.inr List.mem_cons_self) (by simp [Loc.key]) HR.out ?_ ?_
        · rintro s9 w9 rfl hq9; go_wp2_with fail; exact ⟨rfl, rfl, hq9.sub (by simp)⟩
        intro i20 s20 w20 hi20 HF21 hr; unfold kidC; clear j0 j1 j2 j3 j4; clear HR; have HR := Lib.hid hr; clear hr; obtain ⟨j0, j1, j2, j3, j4⟩ := HF21.b0.t5; have hr := HR.out; clear HR; subst hr; go_wp2_with fail; go_ret; exact ⟨⟨rfl, hi20⟩, HF21.sub (by simp)⟩
      · (try simp only [NM, reduceIte, bt_n] at HR); go_wp2_with fail
        with_reducible refine HF19.bind HAt.out HB.out HR.out HO.out ?_ ?_
        · rintro s9 w9 rfl hq9; go_wp2_with fail; exact ⟨rfl, rfl, hq9.sub (by simp)⟩
        rintro a22 s22 e w22 ⟨rfl, hi22⟩ HF23 hr; unfold kidC; clear j0 j1 j2 j3 j4; clear HR; have HR := Lib.hid hr; clear hr; obtain ⟨t24, HT24⟩ := hidE (tokT c s22); (try simp only [NM, reduceIte, HT24.out, bt_n] at HR); obtain ⟨j0, j1, j2, j3, j4⟩ := HF23.b1.t5; (go_wp2_with (at_builtin; (refine (HF23.kid1 99 a22 hi22).wpl_app rfl 4 (List.mem_cons_of_mem _ List.mem_cons_self) _ _ rfl rfl List.mem_cons_self hi22 rfl (by (try simp only [List.length_append, List.length_nil, List.length_cons]); omega) (L' := [.box 3 b5 59 (TC t2)]) (by simp [Loc.key]) ?_); intro v25 w25 HF26)); obtain ⟨A25, N25, cp25, hv25, hN25⟩ := own_form2 HF26.r0; subst hv25; clear j0 j1 j2 j3 j4; obtain ⟨j0, j1, j2, j3, j4⟩ := HF26.b1.t5; clear j0 j1 j2 j3 j4; go_wp2_with fail; go_roundg m14
        case measure => omega
        case rel => exact ⟨s22, (l14 ++ [a22]), HF26.sub (L' := [.row 4 (.slice A25 N25 cp25) (l14 ++ [a22]), .box 3 b5 59 (TC t2)]) (by simp), by (try simp only [List.length_append, List.length_nil, List.length_cons]); omega, HR.out⟩
theorem typ_step (hS : TokSt c.l) (n : Nat) (hn : n ≤ 1000000) (IH : TyAt c n) : Meth c 154 #[.pointer (some ⟨c.bp, 0, none⟩)] (types (c.l.map Tok.bt) (n + 1) .typ) vNum := by
  (refine Meth.mk0 fun E s0 r W HF1 hb hr ho h0 => ?_); have HN := Lib.hid (next_any hS); (have HK := Lib.hid (fun k => kind_any hS k)); (have HWt := Lib.hid (fun k x => want_any hS k x)); have HTy := Lib.hid IH.1; have HBt := Lib.hid IH.2.1; have HAt := Lib.hid IH.2.2; simp only [Pa.types] at hr; have HRw := Lib.hid (row_any hS n hn); have HB := Lib.hid hb; have HO := Lib.hid ho; clear hb ho; have HR := Lib.hid hr; clear hr; obtain ⟨t2, HT2⟩ := hidE (tokT c s0); (try simp only [NM, reduceIte, HT2.out, bt_n] at HR); have fld0 := fldT0; have fld1 := fldT1; have fld2 := fldT2; go_enter_defers Tryz.func154, Tryz.ntmps154; go_wp2_with fail
  with_reducible refine HF1.down HB.out HR.out HO.out ?_ ?_
  · rintro s9 w9 rfl hq9; go_wp2_with fail; exact up_no0 rfl ⟨rfl, hq9.sub (by simp)⟩
  intro s3 w3 HF4 hr; clear HR; have HR := Lib.hid hr; clear hr; obtain ⟨t5, HT5⟩ := hidE (tokT c s3); (try simp only [NM, reduceIte, HT5.out, bt_n] at HR); go_wp2_with fail
  with_reducible refine (HF4.tok).mono ?_
  rintro e w6 ⟨rfl, HF7⟩; rw [HT5.out]; go_upto_region 4 with (fail); obtain ⟨b8, w8, hb8, hw8, HF9⟩ := HF7.boxT 3 t5; rw [hw8, hb8]; clear hw8 hb8; obtain ⟨j0, j1, j2, j3, j4⟩ := HF9.b0.t5; go_wp2_with fail
  with_reducible refine HF9.bind HBt.out HB.out HR.out HO.out ?_ ?_
  · rintro s9 w9 rfl hq9; go_wp2_with fail; exact up_no rfl h0 hq9 (fun w hq => ⟨rfl, hq⟩)
  rintro a10 s10 e w10 ⟨rfl, hi10⟩ HF11 hr; unfold kidC; clear j0 j1 j2 j3 j4; clear HR; have HR := Lib.hid hr; clear hr; obtain ⟨t12, HT12⟩ := hidE (tokT c s10); (try simp only [NM, reduceIte, HT12.out, bt_n] at HR); obtain ⟨j0, j1, j2, j3, j4⟩ := HF11.b0.t5; obtain ⟨q13, hq13⟩ : ∃ q, isB t12.bt 4 ⟨#[45, 62]⟩ = q := ⟨_, rfl⟩; have HI13 := Lib.hid (HF11.iskey ⟨#[45, 62]⟩); rw [HT12.out, hq13] at HI13; (try simp only [NM, reduceIte, hq13, bt_n] at HR); clear hq13; go_wp2_with fail
  with_reducible refine HI13.out.mono ?_
  rintro e w13 ⟨rfl, HF14⟩; clear j0 j1 j2 j3 j4; obtain ⟨j0, j1, j2, j3, j4⟩ := HF14.b0.t5; cases q13
  · (try simp only [NM, reduceIte, bt_n] at HR); have hr := HR.out; clear HR; subst hr; go_wp2_with fail; exact up_ret rfl h0 HF14.out (fun w => results_tmp rfl _ _ _) (fun w hq => ⟨⟨rfl, hi10⟩, hq⟩)
  · (try simp only [NM, reduceIte, bt_n] at HR); go_wp2_with fail
    with_reducible refine HF14.bind HN.out HB.out HR.out HO.out ?_ ?_
    · rintro s9 w9 rfl hq9; go_wp2_with fail; exact up_no rfl h0 hq9 (fun w hq => ⟨rfl, hq⟩)
    rintro a15 s15 e w15 ⟨u15, rfl, rfl, hwf15⟩ HF16 hr; clear j0 j1 j2 j3 j4; clear HR; have HR := Lib.hid hr; clear hr; obtain ⟨t17, HT17⟩ := hidE (tokT c s15); (try simp only [NM, reduceIte, HT17.out, bt_n] at HR); obtain ⟨j0, j1, j2, j3, j4⟩ := HF16.b0.t5; go_wp2_with fail
    with_reducible refine HF16.bind HTy.out HB.out HR.out HO.out ?_ ?_
    · rintro s9 w9 rfl hq9; go_wp2_with fail; exact up_no rfl h0 hq9 (fun w hq => ⟨rfl, hq⟩)
    rintro a18 s18 e w18 ⟨rfl, hi18⟩ HF19 hr; unfold kidC; clear j0 j1 j2 j3 j4; clear HR; have HR := Lib.hid hr; clear hr; obtain ⟨t20, HT20⟩ := hidE (tokT c s18); (try simp only [NM, reduceIte, HT20.out, bt_n] at HR); obtain ⟨j0, j1, j2, j3, j4⟩ := HF19.b0.t5; go_upto_region 9 with (fail); refine wp_anyT ?_; refine wp_region_till [] (fun X => X.cell? ⟨b8, 0, none⟩ = some (.int .i64 t5.kind) ∧ X.cell? ⟨b8, 1, none⟩ = some (.string t5.text) ∧ X.cell? ⟨b8, 2, none⟩ = some (.int .i64 t5.n) ∧ X.cell? ⟨b8, 3, none⟩ = some (.int .i64 t5.line) ∧ X.cell? ⟨b8, 4, none⟩ = some (.int .i64 t5.col)) (by kernel_rfl) ?_ (fun hE => ?_)
    · exact ⟨j0, j1, j2, j3, j4⟩
    (have hS := hE (by kernel_rfl)); obtain ⟨w21, hw21⟩ : ∃ x, World.drew w18 = x := ⟨_, rfl⟩; rw [hw21] at hS ⊢; have HF22 := HF19.drew; rw [hw21] at HF22; clear hE hw21; clear j0 j1 j2 j3 j4; obtain ⟨j0, j1, j2, j3, j4⟩ := HF22.b0.t5; refine wpAnyT_pure (i := 0) (v := ?v9_0_23) rfl (by kernel_rfl) (fun _ _ _ h => h) (Or.inl ⟨by rfl, ?y9_0_23⟩) (fun _ => hS) ?_
    case y9_0_23 => (intro w hSw; go_simp; try with_reducible rfl)
    (try simp only [AP]); refine wpAnyT_take (i := 1) (v := ?v9_1_24) rfl (by kernel_rfl) (fun _ _ _ h => h) (Or.inl ⟨by rfl, ?y9_1_24⟩) hS ?_
    case y9_1_24 => (intro w hSw; (try dsimp only at hSw); go_simp; try with_reducible rfl)
    (try simp only [AP]); refine wpAnyT_pure (i := 2) (v := ?v9_2_25) rfl (by kernel_rfl) (fun _ _ _ h => h) (Or.inl ⟨by rfl, ?y9_2_25⟩) (fun _ => hS) ?_
    case y9_2_25 => (intro w hSw; go_simp; try with_reducible rfl)
    (try simp only [AP]); refine wpAnyT_pure (i := 3) (v := ?v9_3_26) rfl (by kernel_rfl) (fun _ _ _ h => h) (Or.inl ⟨by rfl, ?y9_3_26⟩) (fun _ => hS) ?_
    case y9_3_26 => (intro w hSw; go_simp; try with_reducible rfl)
    (try simp only [AP]); refine wpAnyT_pure (i := 5) (v := ?v9_5_27) rfl (by kernel_rfl) (fun _ _ _ h => h) (Or.inl ⟨by rfl, ?y9_5_27⟩) (fun _ => hS) ?_
    case y9_5_27 => (intro w hSw; go_simp; try with_reducible rfl)
    (try simp only [AP]); (refine wpAnyT_ready (rs := [4]) (by kernel_rfl) rfl ?_); (refine AllT.cons rfl (fun K hK => ?_) AllT.nil); go_simp
    with_reducible refine HF22.bind HRw.out HB.out HR.out HO.out ?_ ?_
    · rintro s9 w9 rfl hq9; go_wp2_with fail; exact AnyT.panic (fun _ => up_no rfl h0 hq9 (fun w hq => ⟨rfl, hq⟩))
    rintro a28 s28 e w28 ⟨rfl, hi28⟩ HF29 hr; unfold kidC; clear j0 j1 j2 j3 j4; clear HR; have HR := Lib.hid hr; clear hr; obtain ⟨t30, HT30⟩ := hidE (tokT c s28); (try simp only [NM, reduceIte, HT30.out, bt_n] at HR); obtain ⟨j0, j1, j2, j3, j4⟩ := HF29.b0.t5; go_wp2_with fail; refine hK.out _ _ (fun _ => ?_) (fun hE => ?_)
    · exact ⟨j0, j1, j2, j3, j4⟩
    clear hS; (have hS := hE (by kernel_rfl)); clear hK K hE; (try simp only [AP]); (refine wpAnyT_ready (rs := [6]) (by kernel_rfl) rfl ?_); (refine AllT.cons rfl (fun K hK => ?_) AllT.nil); go_simp; refine name_world ?_; intro w31 hw31; have HF32 := HF29.kid3 97 a10 a28 a18 hi10 hi28 hi18; rw [← hw31] at HF32; obtain ⟨b31, hb31⟩ : ∃ b, w28.heap.size = b := ⟨_, rfl⟩; rw [hb31] at HF32 ⊢; clear hw31 hb31; clear j0 j1 j2 j3 j4; obtain ⟨j0, j1, j2, j3, j4⟩ := HF32.b1.t5; refine hK.out _ _ (fun _ => ?_) (fun hE => ?_)
    · exact ⟨j0, j1, j2, j3, j4⟩
    clear hS; (have hS := hE (by kernel_rfl)); clear hK K hE; (try simp only [AP]); refine wpAnyT_pure (i := 7) (v := ?v9_7_33) rfl (by kernel_rfl) (fun _ _ _ h => h) (Or.inl ⟨by rfl, ?y9_7_33⟩) (fun _ => hS) ?_
    case y9_7_33 => (intro w hSw; go_simp; try with_reducible rfl)
    (try simp only [AP]); (refine wpAnyT_ready (rs := [8]) (by kernel_rfl) rfl ?_); (refine AllT.cons rfl (fun K hK => ?_) AllT.nil); go_simp; refine HF32.put HB.out t5 { kind := 16, kids := [a10, a28, a18] } 97 ((.slice (some ⟨b31, 0, none⟩) 3 3)) [.box 3 b8 59 (TC t5)] (.inr List.mem_cons_self) (by simp [Loc.key]) HR.out ?_ ?_
    · rintro s9 w9 rfl hq9; go_wp2_with fail; exact AnyT.panic (fun _ => up_no rfl h0 hq9 (fun w hq => ⟨rfl, hq⟩))
    intro i34 s34 w34 hi34 HF35 hr; unfold kidC; clear j0 j1 j2 j3 j4; clear HR; have HR := Lib.hid hr; clear hr; obtain ⟨t36, HT36⟩ := hidE (tokT c s34); (try simp only [NM, reduceIte, HT36.out, bt_n] at HR); obtain ⟨j0, j1, j2, j3, j4⟩ := HF35.b0.t5; go_wp2_with fail; refine hK.out _ _ (fun _ => ?_) (fun hE => ?_)
    · exact ⟨j0, j1, j2, j3, j4⟩
    clear hS; (have hS := hE (by kernel_rfl)); clear hK K hE; (try simp only [AP]); (refine wpAnyT_ready (rs := [9]) (by kernel_rfl) rfl ?_); (refine AllT.cons rfl (fun K hK => ?_) AllT.nil); go_simp; refine hK.out _ _ (fun _ => ?_) (fun hE => ?_)
    · exact ⟨j0, j1, j2, j3, j4⟩
    clear hS; (have hS := hE (by kernel_rfl)); clear hK K hE; (try simp only [AP]); (refine wpAnyT_done (by kernel_rfl) ?_ _); clear hS; refine AnyT.normal ?_; have hr := HR.out; clear HR; subst hr; go_wp2_with fail; exact up_ret rfl h0 HF35.out (fun w => results_tmp rfl _ _ _) (fun w hq => ⟨⟨rfl, hi34⟩, hq⟩)
theorem atype_step (hS : TokSt c.l) (n : Nat) (hn : n ≤ 1000000) (IH : TyAt c n) : Meth c 146 #[.pointer (some ⟨c.bp, 0, none⟩)] (types (c.l.map Tok.bt) (n + 1) .atype) vNum := by
  (refine Meth.mk0 fun E s0 r W HF1 hb hr ho h0 => ?_); have HN := Lib.hid (next_any hS); (have HK := Lib.hid (fun k => kind_any hS k)); (have HWt := Lib.hid (fun k x => want_any hS k x)); have HTy := Lib.hid IH.1; have HBt := Lib.hid IH.2.1; have HAt := Lib.hid IH.2.2; simp only [Pa.types] at hr; (have HRc := Lib.hid (fun t => recType_any hS n hn _ IH.1 t)); have HB := Lib.hid hb; have HO := Lib.hid ho; clear hb ho; have HR := Lib.hid hr; clear hr; obtain ⟨t2, HT2⟩ := hidE (tokT c s0); (try simp only [NM, reduceIte, HT2.out, bt_n] at HR); have fld0 := fldT0; have fld1 := fldT1; have fld2 := fldT2; go_enter_defers Tryz.func146, Tryz.ntmps146; go_wp2_with fail
  with_reducible refine HF1.down HB.out HR.out HO.out ?_ ?_
  · rintro s9 w9 rfl hq9; go_wp2_with fail; exact up_no0 rfl ⟨rfl, hq9.sub (by simp)⟩
  intro s3 w3 HF4 hr; clear HR; have HR := Lib.hid hr; clear hr; obtain ⟨t5, HT5⟩ := hidE (tokT c s3); (try simp only [NM, reduceIte, HT5.out, bt_n] at HR); obtain ⟨q6, hq6⟩ : ∃ q, Pa.beginsType t5.bt = q := ⟨_, rfl⟩; have HI6 := Lib.hid HF4.beginsType; rw [HT5.out, hq6] at HI6; (try simp only [NM, reduceIte, hq6, bt_n] at HR); clear hq6; go_wp2_with fail
  with_reducible refine HI6.out.mono ?_
  rintro e w6 ⟨rfl, HF7⟩; cases q6
  · (try simp only [NM, reduceIte, bt_n] at HR); go_wp2_with fail
    with_reducible refine (HF7.fail' 5 HB.out).mono ?_
    rintro e w8 ⟨rfl, hq⟩; have hq := Lib.hid hq; have hr := HR.out; clear HR; subst hr; go_wp2_with fail; exact up_no rfl h0 hq.out (fun w hq => ⟨rfl, hq⟩)
  · (try simp only [NM, reduceIte, bt_n] at HR); go_wp2_with fail
    with_reducible refine HF7.bind HN.out HB.out HR.out HO.out ?_ ?_
    · rintro s9 w9 rfl hq9; go_wp2_with fail; exact up_no rfl h0 hq9 (fun w hq => ⟨rfl, hq⟩)
    rintro a9 s9 e w9 ⟨u9, rfl, rfl, hwf9⟩ HF10 hr; clear HR; have HR := Lib.hid hr; clear hr; obtain ⟨t11, HT11⟩ := hidE (tokT c s9); (try simp only [NM, reduceIte, HT11.out, bt_n] at HR); go_upto_region 6 with (fail); obtain ⟨b12, w12, hb12, hw12, HF13⟩ := HF10.boxT 3 u9; rw [hw12, hb12]; clear hw12 hb12; obtain ⟨j0, j1, j2, j3, j4⟩ := HF13.b0.t5; obtain ⟨q14, eq14⟩ : ∃ q, (u9.bt.kind == 0) = q := ⟨_, rfl⟩; (try simp only [NM, reduceIte, eq14, bt_n] at HR); have hq14 : (u9.kind == 0) = q14 := eq14; (have nq14 : (u9.kind != 0) = !q14 := by rw [bne, hq14]); clear eq14; cases q14
    · simp only [NB] at nq14; (try simp only [NM, reduceIte, bt_n] at HR); obtain ⟨q15, eq15⟩ : ∃ q, (u9.bt.kind == 1) = q := ⟨_, rfl⟩; (try simp only [NM, reduceIte, eq15, bt_n] at HR); have hq15 : (u9.kind == 1) = q15 := eq15; (have nq15 : (u9.kind != 1) = !q15 := by rw [bne, hq15]); clear eq15; cases q15
      · simp only [NB] at nq15; (try simp only [NM, reduceIte, bt_n] at HR); obtain ⟨q16, hq16⟩ : ∃ q, isX u9.bt ⟨#[40]⟩ = q := ⟨_, rfl⟩; (have gq16 : (u9.text.toList == [40]) = q16 := by rw [← hq16, isX_eq, show (⟨#[40]⟩ : ByteArray).toList = [40] from by kernel_rfl]); (have nq16 : (u9.text.toList != [40]) = !q16 := by rw [bne, gq16]); (try simp only [NM, reduceIte, hq16, bt_n] at HR); clear hq16; cases q16
        · simp only [NB] at nq16; (try simp only [NM, reduceIte, bt_n] at HR); go_wp2_with fail
          with_reducible refine HF13.bind (HRc.out u9) HB.out HR.out HO.out ?_ ?_
          · rintro s9 w9 rfl hq9; go_wp2_with fail; exact up_no rfl h0 hq9 (fun w hq => ⟨rfl, hq⟩)
          rintro a17 s17 e w17 ⟨rfl, hi17⟩ HF18 hr; unfold kidC; clear j0 j1 j2 j3 j4; clear HR; have HR := Lib.hid hr; clear hr; obtain ⟨t19, HT19⟩ := hidE (tokT c s17); (try simp only [NM, reduceIte, HT19.out, bt_n] at HR); obtain ⟨j0, j1, j2, j3, j4⟩ := HF18.b0.t5; have hr := HR.out; clear HR; subst hr; go_wp2_with fail; exact up_ret rfl h0 HF18.out (fun w => results_tmp rfl _ _ _) (fun w hq => ⟨⟨rfl, hi17⟩, hq⟩)
        · simp only [NB] at nq16; (try simp only [NM, reduceIte, bt_n] at HR); go_wp2_with fail
          with_reducible refine HF13.bind HTy.out HB.out HR.out HO.out ?_ ?_
          · rintro s9 w9 rfl hq9; go_wp2_with fail; exact up_no rfl h0 hq9 (fun w hq => ⟨rfl, hq⟩)
          rintro a20 s20 e w20 ⟨rfl, hi20⟩ HF21 hr; unfold kidC; clear j0 j1 j2 j3 j4; clear HR; have HR := Lib.hid hr; clear hr; obtain ⟨t22, HT22⟩ := hidE (tokT c s20); (try simp only [NM, reduceIte, HT22.out, bt_n] at HR); obtain ⟨j0, j1, j2, j3, j4⟩ := HF21.b0.t5; go_wp2_with fail
          with_reducible refine HF21.bind (HWt.out 5 ⟨#[41]⟩) HB.out HR.out HO.out ?_ ?_
          · rintro s9 w9 rfl hq9; go_wp2_with fail; exact up_no rfl h0 hq9 (fun w hq => ⟨rfl, hq⟩)
          rintro a23 s23 e w23 ⟨u23, rfl, rfl, hwf23⟩ HF24 hr; clear j0 j1 j2 j3 j4; clear HR; have HR := Lib.hid hr; clear hr; obtain ⟨t25, HT25⟩ := hidE (tokT c s23); (try simp only [NM, reduceIte, HT25.out, bt_n] at HR); obtain ⟨j0, j1, j2, j3, j4⟩ := HF24.b0.t5; have hr := HR.out; clear HR; subst hr; go_wp2_with fail; exact up_ret rfl h0 HF24.out (fun w => results_tmp rfl _ _ _) (fun w hq => ⟨⟨rfl, hi20⟩, hq⟩)
      · simp only [NB] at nq15; (try simp only [NM, reduceIte, bt_n] at HR); go_wp2_with fail; refine HF13.put HB.out u9 { kind := 15, text := u9.text } 999 (.slice none 0 0) [.box 3 b12 59 (TC u9)] (.inl ⟨rfl, rfl⟩) (by simp [Loc.key]) HR.out ?_ ?_
        · rintro s9 w9 rfl hq9; go_wp2_with fail; exact up_no rfl h0 hq9 (fun w hq => ⟨rfl, hq⟩)
        intro i26 s26 w26 hi26 HF27 hr; unfold kidC; clear j0 j1 j2 j3 j4; clear HR; have HR := Lib.hid hr; clear hr; obtain ⟨t28, HT28⟩ := hidE (tokT c s26); (try simp only [NM, reduceIte, HT28.out, bt_n] at HR); obtain ⟨j0, j1, j2, j3, j4⟩ := HF27.b0.t5; have hr := HR.out; clear HR; subst hr; go_wp2_with fail; exact up_ret rfl h0 HF27.out (fun w => results_tmp rfl _ _ _) (fun w hq => ⟨⟨rfl, hi26⟩, hq⟩)
    · simp only [NB] at nq14; (try simp only [NM, reduceIte, bt_n] at HR); go_wp2_with fail; refine HF13.put HB.out u9 { kind := 14, text := u9.text } 999 (.slice none 0 0) [.box 3 b12 59 (TC u9)] (.inl ⟨rfl, rfl⟩) (by simp [Loc.key]) HR.out ?_ ?_
      · rintro s9 w9 rfl hq9; go_wp2_with fail; exact up_no rfl h0 hq9 (fun w hq => ⟨rfl, hq⟩)
      intro i29 s29 w29 hi29 HF30 hr; unfold kidC; clear j0 j1 j2 j3 j4; clear HR; have HR := Lib.hid hr; clear hr; obtain ⟨t31, HT31⟩ := hidE (tokT c s29); (try simp only [NM, reduceIte, HT31.out, bt_n] at HR); obtain ⟨j0, j1, j2, j3, j4⟩ := HF30.b0.t5; have hr := HR.out; clear HR; subst hr; go_wp2_with fail; exact up_ret rfl h0 HF30.out (fun w => results_tmp rfl _ _ _) (fun w hq => ⟨⟨rfl, hi29⟩, hq⟩)
theorem types_any (hS : TokSt c.l) : ∀ n, n ≤ 1000000 → TyAt c n
  | 0, _ => ⟨fun _ _ _ _ _ _ _ _ _ _ h => absurd rfl h, fun _ _ _ _ _ _ _ _ _ _ h => absurd rfl h, fun _ _ _ _ _ _ _ _ _ _ h => absurd rfl h⟩
  | n + 1, hn => have IH := types_any hS n (by omega); ⟨typ_step hS n (by omega) IH, btype_step hS n (by omega) IH, atype_step hS n (by omega) IH⟩
end
end Go.Proofs.YtcjoapmodaioiaaGreatDoor
