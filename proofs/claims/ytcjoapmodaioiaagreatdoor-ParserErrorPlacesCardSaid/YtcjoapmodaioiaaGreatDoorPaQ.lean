/- The parser's declarations, walked (2). -/
import Derived.Test.YtcjoapmodaioiaaGreatDoorPaM
set_option linter.unusedVariables false
set_option linter.unusedSimpArgs false
namespace Go.Proofs.YtcjoapmodaioiaaGreatDoor
open Go.RowKit Go.Shelf Pa
set_option maxRecDepth 100000
set_option maxHeartbeats 8000000

section
variable {c : Cx}
theorem decl_any (hS : TokSt c.l) (n : Nat) (hn : n ≤ 1000000) : Meth c 91 #[.pointer (some ⟨c.bp, 0, none⟩)] (decl (c.l.map Tok.bt) n) vNum := by
  (refine Meth.mk fun E s0 r W HF1 hb hr ho => ?_); have HN := Lib.hid (next_any hS); (have HK := Lib.hid (fun k => kind_any hS k)); (have HWt := Lib.hid (fun k x => want_any hS k x)); (have hmf : ∀ (fn : Fn) (first cap : Array Value) (w : World), (Instr.makeFunc fn first cap).run Tryz.prog w = .ok (.func fn first cap) w := fun _ _ _ _ => rfl); (have HBl := Lib.hid (fun (F : Nat) (hE : ∀ (args : Array Value) (w : World), (callFunc F args).run Tryz.prog w = .ok (.enter F args) w) (item : Pm Nat) (M : Meth c F #[.pointer (some ⟨c.bp, 0, none⟩)] item vNum) => block_any hS n hn F hE item M)); have HDn := Lib.hid (exprs_any hS n hn).defn; have HIm := Lib.hid (imports_any hS n hn); have HNs := Lib.hid (names_any hS n hn); have HFx := Lib.hid (fix_any hS); have HDa := Lib.hid (data_any hS n hn); have HOs := Lib.hid (opSig_any hS n hn); have HCl := Lib.hid (class_any hS n hn); have HIn := Lib.hid (instance_any hS n hn); have HB := Lib.hid hb; have HO := Lib.hid ho; clear hb ho; have HR := Lib.hid hr; clear hr; obtain ⟨t2, HT2⟩ := hidE (tokT c s0); have hr := HR.out; clear HR; unfold decl at hr; have HR := Lib.hid hr; clear hr; (try simp only [NM, reduceIte, HT2.out] at HR); have fld0 := fldT0; have fld1 := fldT1; have fld2 := fldT2; go_enter Tryz.func91, Tryz.ntmps91; go_wp2_with fail
  with_reducible refine (HF1.tok).mono ?_
  rintro e w3 ⟨rfl, HF4⟩; rw [HT2.out]; go_upto_region 2 with (fail); obtain ⟨b5, w5, hb5, hw5, HF6⟩ := HF4.boxT 3 t2; rw [hw5, hb5]; clear hw5 hb5; obtain ⟨j0, j1, j2, j3, j4⟩ := HF6.b0.t5; obtain ⟨q7, eq7⟩ : ∃ q, (t2.bt.kind == 4) = q := ⟨_, rfl⟩; (try simp only [NM, reduceIte, eq7] at HR); have hq7 : (t2.kind == 4) = q7 := eq7; (have nq7 : (t2.kind != 4) = !q7 := by rw [bne, hq7]); clear eq7; cases q7
  · simp only [NB] at nq7; (try simp only [NM, reduceIte] at HR); go_wp2_with fail
    with_reducible refine HF6.tail HDn.out HB.out HR.out HO.out ?_ ?_
    · rintro s9 w9 rfl hq9; go_wp2_with fail; exact ⟨rfl, rfl, hq9.sub (by simp)⟩
    rintro a8 s8 e w8 ⟨rfl, hi8⟩ HF9 hr; unfold kidC; clear j0 j1 j2 j3 j4; clear HR; have HR := Lib.hid hr; clear hr; obtain ⟨j0, j1, j2, j3, j4⟩ := HF9.b0.t5; have hr := HR.out; clear HR; subst hr; go_wp2_with fail; go_ret; exact ⟨⟨rfl, hi8⟩, HF9.sub (by simp)⟩
  · simp only [NB] at nq7; (try simp only [NM, reduceIte] at HR); obtain ⟨q10, hq10⟩ : ∃ q, isX t2.bt ⟨#[105, 109, 112, 111, 114, 116]⟩ = q := ⟨_, rfl⟩; (have gq10 : (t2.text.toList == [105, 109, 112, 111, 114, 116]) = q10 := by rw [← hq10, isX_eq, show (⟨#[105, 109, 112, 111, 114, 116]⟩ : ByteArray).toList = [105, 109, 112, 111, 114, 116] from by kernel_rfl]); (have nq10 : (t2.text.toList != [105, 109, 112, 111, 114, 116]) = !q10 := by rw [bne, gq10]); (try simp only [NM, reduceIte, hq10] at HR); clear hq10; cases q10
    · simp only [NB] at nq10; (try simp only [NM, reduceIte] at HR); obtain ⟨q11, hq11⟩ : ∃ q, isX t2.bt ⟨#[101, 120, 112, 111, 114, 116]⟩ = q := ⟨_, rfl⟩; (have gq11 : (t2.text.toList == [101, 120, 112, 111, 114, 116]) = q11 := by rw [← hq11, isX_eq, show (⟨#[101, 120, 112, 111, 114, 116]⟩ : ByteArray).toList = [101, 120, 112, 111, 114, 116] from by kernel_rfl]); (have nq11 : (t2.text.toList != [101, 120, 112, 111, 114, 116]) = !q11 := by rw [bne, gq11]); (try simp only [NM, reduceIte, hq11] at HR); clear hq11; cases q11
      · simp only [NB] at nq11; (try simp only [NM, reduceIte] at HR); obtain ⟨q12, hq12⟩ : ∃ q, isX t2.bt ⟨#[105, 110, 102, 105, 120, 108]⟩ = q := ⟨_, rfl⟩; (have gq12 : (t2.text.toList == [105, 110, 102, 105, 120, 108]) = q12 := by rw [← hq12, isX_eq, show (⟨#[105, 110, 102, 105, 120, 108]⟩ : ByteArray).toList = [105, 110, 102, 105, 120, 108] from by kernel_rfl]); (have nq12 : (t2.text.toList != [105, 110, 102, 105, 120, 108]) = !q12 := by rw [bne, gq12]); (try simp only [NM, reduceIte, hq12] at HR); clear hq12; cases q12
        · simp only [NB] at nq12; (try simp only [NM, reduceIte] at HR); obtain ⟨q13, hq13⟩ : ∃ q, isX t2.bt ⟨#[105, 110, 102, 105, 120, 114]⟩ = q := ⟨_, rfl⟩; (have gq13 : (t2.text.toList == [105, 110, 102, 105, 120, 114]) = q13 := by rw [← hq13, isX_eq, show (⟨#[105, 110, 102, 105, 120, 114]⟩ : ByteArray).toList = [105, 110, 102, 105, 120, 114] from by kernel_rfl]); (have nq13 : (t2.text.toList != [105, 110, 102, 105, 120, 114]) = !q13 := by rw [bne, gq13]); (try simp only [NM, reduceIte, hq13] at HR); clear hq13; cases q13
          · simp only [NB] at nq13; (try simp only [NM, reduceIte] at HR); obtain ⟨q14, hq14⟩ : ∃ q, isX t2.bt ⟨#[105, 110, 102, 105, 120]⟩ = q := ⟨_, rfl⟩; (have gq14 : (t2.text.toList == [105, 110, 102, 105, 120]) = q14 := by rw [← hq14, isX_eq, show (⟨#[105, 110, 102, 105, 120]⟩ : ByteArray).toList = [105, 110, 102, 105, 120] from by kernel_rfl]); (have nq14 : (t2.text.toList != [105, 110, 102, 105, 120]) = !q14 := by rw [bne, gq14]); (try simp only [NM, reduceIte, hq14] at HR); clear hq14; cases q14
            · simp only [NB] at nq14; (try simp only [NM, reduceIte] at HR); obtain ⟨q15, hq15⟩ : ∃ q, isX t2.bt ⟨#[100, 97, 116, 97]⟩ = q := ⟨_, rfl⟩; (have gq15 : (t2.text.toList == [100, 97, 116, 97]) = q15 := by rw [← hq15, isX_eq, show (⟨#[100, 97, 116, 97]⟩ : ByteArray).toList = [100, 97, 116, 97] from by kernel_rfl]); (have nq15 : (t2.text.toList != [100, 97, 116, 97]) = !q15 := by rw [bne, gq15]); (try simp only [NM, reduceIte, hq15] at HR); clear hq15; cases q15
              · simp only [NB] at nq15; (try simp only [NM, reduceIte] at HR); obtain ⟨q16, hq16⟩ : ∃ q, isX t2.bt ⟨#[101, 102, 102, 101, 99, 116]⟩ = q := ⟨_, rfl⟩; (have gq16 : (t2.text.toList == [101, 102, 102, 101, 99, 116]) = q16 := by rw [← hq16, isX_eq, show (⟨#[101, 102, 102, 101, 99, 116]⟩ : ByteArray).toList = [101, 102, 102, 101, 99, 116] from by kernel_rfl]); (have nq16 : (t2.text.toList != [101, 102, 102, 101, 99, 116]) = !q16 := by rw [bne, gq16]); (try simp only [NM, reduceIte, hq16] at HR); clear hq16; cases q16
                · simp only [NB] at nq16; (try simp only [NM, reduceIte] at HR); obtain ⟨q17, hq17⟩ : ∃ q, isX t2.bt ⟨#[99, 108, 97, 115, 115]⟩ = q := ⟨_, rfl⟩; (have gq17 : (t2.text.toList == [99, 108, 97, 115, 115]) = q17 := by rw [← hq17, isX_eq, show (⟨#[99, 108, 97, 115, 115]⟩ : ByteArray).toList = [99, 108, 97, 115, 115] from by kernel_rfl]); (have nq17 : (t2.text.toList != [99, 108, 97, 115, 115]) = !q17 := by rw [bne, gq17]); (try simp only [NM, reduceIte, hq17] at HR); clear hq17; cases q17
                  · simp only [NB] at nq17; (try simp only [NM, reduceIte] at HR); obtain ⟨q18, hq18⟩ : ∃ q, isX t2.bt ⟨#[105, 110, 115, 116, 97, 110, 99, 101]⟩ = q := ⟨_, rfl⟩; (have gq18 : (t2.text.toList == [105, 110, 115, 116, 97, 110, 99, 101]) = q18 := by rw [← hq18, isX_eq, show (⟨#[105, 110, 115, 116, 97, 110, 99, 101]⟩ : ByteArray).toList = [105, 110, 115, 116, 97, 110, 99, 101] from by kernel_rfl]); (have nq18 : (t2.text.toList != [105, 110, 115, 116, 97, 110, 99, 101]) = !q18 := by rw [bne, gq18]); (try simp only [NM, reduceIte, hq18] at HR); clear hq18; cases q18
                    · simp only [NB] at nq18; (try simp only [NM, reduceIte] at HR); go_wp2_with fail
                      with_reducible refine (HF6.fail' 5 HB.out).mono ?_
                      rintro e w19 ⟨rfl, hq⟩; have hq := Lib.hid hq; have hr := HR.out; clear HR; subst hr; clear j0 j1 j2 j3 j4; go_wp2_with fail; exact ⟨rfl, rfl, hq.out.sub (by simp)⟩
                    · simp only [NB] at nq18; (try simp only [NM, reduceIte] at HR); go_wp2_with fail
                      with_reducible refine HF6.tail HIn.out HB.out HR.out HO.out ?_ ?_
                      · rintro s9 w9 rfl hq9; go_wp2_with fail; exact ⟨rfl, rfl, hq9.sub (by simp)⟩
                      rintro a20 s20 e w20 ⟨rfl, hi20⟩ HF21 hr; unfold kidC; clear j0 j1 j2 j3 j4; clear HR; have HR := Lib.hid hr; clear hr; obtain ⟨j0, j1, j2, j3, j4⟩ := HF21.b0.t5; have hr := HR.out; clear HR; subst hr; go_wp2_with fail; go_ret; exact ⟨⟨rfl, hi20⟩, HF21.sub (by simp)⟩
                  · simp only [NB] at nq17; (try simp only [NM, reduceIte] at HR); go_wp2_with fail
                    with_reducible refine HF6.tail HCl.out HB.out HR.out HO.out ?_ ?_
                    · rintro s9 w9 rfl hq9; go_wp2_with fail; exact ⟨rfl, rfl, hq9.sub (by simp)⟩
                    rintro a22 s22 e w22 ⟨rfl, hi22⟩ HF23 hr; unfold kidC; clear j0 j1 j2 j3 j4; clear HR; have HR := Lib.hid hr; clear hr; obtain ⟨j0, j1, j2, j3, j4⟩ := HF23.b0.t5; have hr := HR.out; clear HR; subst hr; go_wp2_with fail; go_ret; exact ⟨⟨rfl, hi22⟩, HF23.sub (by simp)⟩
                · simp only [NB] at nq16; (try simp only [NM, reduceIte] at HR); go_wp2_with fail
                  with_reducible refine HF6.bind HN.out HB.out HR.out HO.out ?_ ?_
                  · rintro s9 w9 rfl hq9; go_wp2_with fail; exact ⟨rfl, rfl, hq9.sub (by simp)⟩
                  rintro a24 s24 e w24 ⟨tk24, rfl, rfl, hwf24⟩ HF25 hr; clear j0 j1 j2 j3 j4; clear HR; have HR := Lib.hid hr; clear hr; obtain ⟨t26, HT26⟩ := hidE (tokT c s24); (try simp only [NM, reduceIte, HT26.out] at HR); obtain ⟨j0, j1, j2, j3, j4⟩ := HF25.b0.t5; go_wp2_with fail
                  with_reducible refine HF25.bind (HK.out 1) HB.out HR.out HO.out ?_ ?_
                  · rintro s9 w9 rfl hq9; go_wp2_with fail; exact ⟨rfl, rfl, hq9.sub (by simp)⟩
                  rintro a27 s27 e w27 ⟨tk27, rfl, rfl, hwf27⟩ HF28 hr; clear j0 j1 j2 j3 j4; clear HR; have HR := Lib.hid hr; clear hr; obtain ⟨t29, HT29⟩ := hidE (tokT c s27); (try simp only [NM, reduceIte, HT29.out] at HR); obtain ⟨j0, j1, j2, j3, j4⟩ := HF28.b0.t5; go_wp2_with fail
                  with_reducible refine HF28.bind (HWt.out 4 ⟨#[119, 104, 101, 114, 101]⟩) HB.out HR.out HO.out ?_ ?_
                  · rintro s9 w9 rfl hq9; go_wp2_with fail; exact ⟨rfl, rfl, hq9.sub (by simp)⟩
                  rintro a30 s30 e w30 ⟨tk30, rfl, rfl, hwf30⟩ HF31 hr; clear j0 j1 j2 j3 j4; clear HR; have HR := Lib.hid hr; clear hr; obtain ⟨t32, HT32⟩ := hidE (tokT c s30); (try simp only [NM, reduceIte, HT32.out] at HR); obtain ⟨j0, j1, j2, j3, j4⟩ := HF31.b0.t5; go_upto_region 20 with (fail); refine wp_region_till [] (fun X => X.cell? ⟨b5, 0, none⟩ = some (.int .i64 t2.kind) ∧ X.cell? ⟨b5, 1, none⟩ = some (.string t2.text) ∧ X.cell? ⟨b5, 2, none⟩ = some (.int .i64 t2.n) ∧ X.cell? ⟨b5, 3, none⟩ = some (.int .i64 t2.line) ∧ X.cell? ⟨b5, 4, none⟩ = some (.int .i64 t2.col)) (by kernel_rfl) ?_ (fun hE => ?_)
                  · exact ⟨j0, j1, j2, j3, j4⟩
                  (have hS := hE (by kernel_rfl)); obtain ⟨w33, hw33⟩ : ∃ x, World.drew w30 = x := ⟨_, rfl⟩; rw [hw33] at hS ⊢; have HF34 := HF31.drew; rw [hw33] at HF34; clear hE hw33; clear j0 j1 j2 j3 j4; obtain ⟨j0, j1, j2, j3, j4⟩ := HF34.b0.t5; refine wpAnyT_pure (i := 0) (v := ?v20_0_35) rfl (by kernel_rfl) (fun _ _ _ h => h) (Or.inl ⟨by rfl, ?y20_0_35⟩) (fun _ => hS) ?_
                  case y20_0_35 => (intro w hSw; go_simp; try with_reducible rfl)
                  (try simp only [AP]); refine wpAnyT_take (i := 1) (v := ?v20_1_36) rfl (by kernel_rfl) (fun _ _ _ h => h) (Or.inl ⟨by rfl, ?y20_1_36⟩) hS ?_
                  case y20_1_36 => (intro w hSw; (try dsimp only at hSw); go_simp; try with_reducible rfl)
                  (try simp only [AP]); refine wpAnyT_pure (i := 2) (v := ?v20_2_37) rfl (by kernel_rfl) (fun _ _ _ h => h) (Or.inl ⟨by rfl, ?y20_2_37⟩) (fun _ => hS) ?_
                  case y20_2_37 => (intro w hSw; go_simp; try with_reducible rfl)
                  (try simp only [AP]); refine wpAnyT_pure (i := 3) (v := ?v20_3_38) rfl (by kernel_rfl) (fun _ _ _ h => h) (Or.inl ⟨by rfl, ?y20_3_38⟩) (fun _ => hS) ?_
                  case y20_3_38 => (intro w hSw; go_simp; try with_reducible rfl)
                  (try simp only [AP]); refine wpAnyT_pure (i := 4) (v := ?v20_4_39) rfl (by kernel_rfl) (fun _ _ _ h => h) (Or.inl ⟨by rfl, ?y20_4_39⟩) (fun _ => hS) ?_
                  case y20_4_39 => (intro w hSw; go_simp; try with_reducible rfl)
                  (try simp only [AP]); (refine wpAnyT_ready (rs := [5]) (by kernel_rfl) rfl ?_); (refine AllT.cons rfl (fun K hK => ?_) AllT.nil); go_simp; refine hK.out _ _ (fun _ => ?_) (fun hE => ?_)
                  · exact ⟨j0, j1, j2, j3, j4⟩
                  clear hS; (have hS := hE (by kernel_rfl)); clear hK K hE; (try simp only [AP]); (refine wpAnyT_ready (rs := [6]) (by kernel_rfl) rfl ?_); (refine AllT.cons rfl (fun K hK => ?_) AllT.nil); go_simp
                  with_reducible refine HF34.bindR 40 (HBl.out 125 (fun _ _ => by kernel_rfl) _ HOs.out) HB.out HR.out HO.out ?_ ?_
                  · rintro s9 w9 rfl hq9; go_wp2_with fail; exact ⟨rfl, rfl, hq9.sub (by simp)⟩
                  intro l40 s40 v40 w40 hl40 HF41 hr; obtain ⟨A40, N40, cp40, hv40, hN40⟩ := own_form2 HF41.r0; subst hv40; clear j0 j1 j2 j3 j4; clear HR; have HR := Lib.hid hr; clear hr; obtain ⟨t42, HT42⟩ := hidE (tokT c s40); (try simp only [NM, reduceIte, HT42.out] at HR); obtain ⟨j0, j1, j2, j3, j4⟩ := HF41.b1.t5; go_wp2_with fail; refine hK.out _ _ (fun _ => ?_) (fun hE => ?_)
                  · exact ⟨j0, j1, j2, j3, j4⟩
                  clear hS; (have hS := hE (by kernel_rfl)); clear hK K hE; (try simp only [AP]); refine wpAnyT_pure (i := 7) (v := ?v20_7_43) rfl (by kernel_rfl) (fun _ _ _ h => h) (Or.inl ⟨by rfl, ?y20_7_43⟩) (fun _ => hS) ?_
                  case y20_7_43 => (intro w hSw; go_simp; try with_reducible rfl)
                  (try simp only [AP]); (refine wpAnyT_ready (rs := [8]) (by kernel_rfl) rfl ?_); (refine AllT.cons rfl (fun K hK => ?_) AllT.nil); go_simp; refine HF41.putT HB.out t2 { kind := 7, text := tk27.text, kids := l40 } 40 ((.slice A40 N40 cp40)) [.box 3 b5 59 (TC t2)] (.inr List.mem_cons_self) (by simp [Loc.key]) HR.out ?_ ?_
                  · rintro s9 w9 rfl hq9; go_wp2_with fail; exact ⟨rfl, rfl, hq9.sub (by simp)⟩
                  intro i44 s44 w44 hi44 HF45 hr; unfold kidC; clear j0 j1 j2 j3 j4; clear HR; have HR := Lib.hid hr; clear hr; obtain ⟨j0, j1, j2, j3, j4⟩ := HF45.b0.t5; go_wp2_with fail; refine hK.out _ _ (fun _ => ?_) (fun hE => ?_)
                  · exact ⟨j0, j1, j2, j3, j4⟩
                  clear hS; (have hS := hE (by kernel_rfl)); clear hK K hE; (try simp only [AP]); (refine wpAnyT_ready (rs := [9]) (by kernel_rfl) rfl ?_); (refine AllT.cons rfl (fun K hK => ?_) AllT.nil); go_simp; refine hK.out _ _ (fun _ => ?_) (fun hE => ?_)
                  · exact ⟨j0, j1, j2, j3, j4⟩
                  clear hS; (have hS := hE (by kernel_rfl)); clear hK K hE; (try simp only [AP]); (refine wpAnyT_done (by kernel_rfl) ?_ _); clear hS; have hr := HR.out; clear HR; subst hr; go_wp2_with fail; go_ret; exact ⟨⟨rfl, hi44⟩, HF45.sub (by simp)⟩
              · simp only [NB] at nq15; (try simp only [NM, reduceIte] at HR); go_wp2_with fail
                with_reducible refine HF6.tail HDa.out HB.out HR.out HO.out ?_ ?_
                · rintro s9 w9 rfl hq9; go_wp2_with fail; exact ⟨rfl, rfl, hq9.sub (by simp)⟩
                rintro a46 s46 e w46 ⟨rfl, hi46⟩ HF47 hr; unfold kidC; clear j0 j1 j2 j3 j4; clear HR; have HR := Lib.hid hr; clear hr; obtain ⟨j0, j1, j2, j3, j4⟩ := HF47.b0.t5; have hr := HR.out; clear HR; subst hr; go_wp2_with fail; go_ret; exact ⟨⟨rfl, hi46⟩, HF47.sub (by simp)⟩
            · simp only [NB] at nq14; (try simp only [NM, reduceIte] at HR); go_wp2_with fail
              with_reducible refine HF6.tail HFx.out HB.out HR.out HO.out ?_ ?_
              · rintro s9 w9 rfl hq9; go_wp2_with fail; exact ⟨rfl, rfl, hq9.sub (by simp)⟩
              rintro a48 s48 e w48 ⟨rfl, hi48⟩ HF49 hr; unfold kidC; clear j0 j1 j2 j3 j4; clear HR; have HR := Lib.hid hr; clear hr; obtain ⟨j0, j1, j2, j3, j4⟩ := HF49.b0.t5; have hr := HR.out; clear HR; subst hr; go_wp2_with fail; go_ret; exact ⟨⟨rfl, hi48⟩, HF49.sub (by simp)⟩
          · simp only [NB] at nq13; (try simp only [NM, reduceIte] at HR); go_wp2_with fail
            with_reducible refine HF6.tail HFx.out HB.out HR.out HO.out ?_ ?_
            · rintro s9 w9 rfl hq9; go_wp2_with fail; exact ⟨rfl, rfl, hq9.sub (by simp)⟩
            rintro a50 s50 e w50 ⟨rfl, hi50⟩ HF51 hr; unfold kidC; clear j0 j1 j2 j3 j4; clear HR; have HR := Lib.hid hr; clear hr; obtain ⟨j0, j1, j2, j3, j4⟩ := HF51.b0.t5; have hr := HR.out; clear HR; subst hr; go_wp2_with fail; go_ret; exact ⟨⟨rfl, hi50⟩, HF51.sub (by simp)⟩
        · simp only [NB] at nq12; (try simp only [NM, reduceIte] at HR); go_wp2_with fail
          with_reducible refine HF6.tail HFx.out HB.out HR.out HO.out ?_ ?_
          · rintro s9 w9 rfl hq9; go_wp2_with fail; exact ⟨rfl, rfl, hq9.sub (by simp)⟩
          rintro a52 s52 e w52 ⟨rfl, hi52⟩ HF53 hr; unfold kidC; clear j0 j1 j2 j3 j4; clear HR; have HR := Lib.hid hr; clear hr; obtain ⟨j0, j1, j2, j3, j4⟩ := HF53.b0.t5; have hr := HR.out; clear HR; subst hr; go_wp2_with fail; go_ret; exact ⟨⟨rfl, hi52⟩, HF53.sub (by simp)⟩
      · simp only [NB] at nq11; (try simp only [NM, reduceIte] at HR); go_wp2_with fail
        with_reducible refine HF6.bind HN.out HB.out HR.out HO.out ?_ ?_
        · rintro s9 w9 rfl hq9; go_wp2_with fail; exact ⟨rfl, rfl, hq9.sub (by simp)⟩
        rintro a54 s54 e w54 ⟨tk54, rfl, rfl, hwf54⟩ HF55 hr; clear j0 j1 j2 j3 j4; clear HR; have HR := Lib.hid hr; clear hr; obtain ⟨t56, HT56⟩ := hidE (tokT c s54); (try simp only [NM, reduceIte, HT56.out] at HR); obtain ⟨j0, j1, j2, j3, j4⟩ := HF55.b0.t5; go_upto_region 9 with (fail); refine wp_region_till [] (fun X => X.cell? ⟨b5, 0, none⟩ = some (.int .i64 t2.kind) ∧ X.cell? ⟨b5, 1, none⟩ = some (.string t2.text) ∧ X.cell? ⟨b5, 2, none⟩ = some (.int .i64 t2.n) ∧ X.cell? ⟨b5, 3, none⟩ = some (.int .i64 t2.line) ∧ X.cell? ⟨b5, 4, none⟩ = some (.int .i64 t2.col)) (by kernel_rfl) ?_ (fun hE => ?_)
        · exact ⟨j0, j1, j2, j3, j4⟩
        (have hS := hE (by kernel_rfl)); obtain ⟨w57, hw57⟩ : ∃ x, World.drew w54 = x := ⟨_, rfl⟩; rw [hw57] at hS ⊢; have HF58 := HF55.drew; rw [hw57] at HF58; clear hE hw57; clear j0 j1 j2 j3 j4; obtain ⟨j0, j1, j2, j3, j4⟩ := HF58.b0.t5; refine wpAnyT_pure (i := 0) (v := ?v9_0_59) rfl (by kernel_rfl) (fun _ _ _ h => h) (Or.inl ⟨by rfl, ?y9_0_59⟩) (fun _ => hS) ?_
        case y9_0_59 => (intro w hSw; go_simp; try with_reducible rfl)
        (try simp only [AP]); refine wpAnyT_take (i := 1) (v := ?v9_1_60) rfl (by kernel_rfl) (fun _ _ _ h => h) (Or.inl ⟨by rfl, ?y9_1_60⟩) hS ?_
        case y9_1_60 => (intro w hSw; (try dsimp only at hSw); go_simp; try with_reducible rfl)
        (try simp only [AP]); refine wpAnyT_pure (i := 2) (v := ?v9_2_61) rfl (by kernel_rfl) (fun _ _ _ h => h) (Or.inl ⟨by rfl, ?y9_2_61⟩) (fun _ => hS) ?_
        case y9_2_61 => (intro w hSw; go_simp; try with_reducible rfl)
        (try simp only [AP]); (refine wpAnyT_ready (rs := [3]) (by kernel_rfl) rfl ?_); (refine AllT.cons rfl (fun K hK => ?_) AllT.nil); go_simp
        with_reducible refine HF58.bindR 40 HNs.out HB.out HR.out HO.out ?_ ?_
        · rintro s9 w9 rfl hq9; go_wp2_with fail; exact ⟨rfl, rfl, hq9.sub (by simp)⟩
        intro l62 s62 v62 w62 hl62 HF63 hr; obtain ⟨A62, N62, cp62, hv62, hN62⟩ := own_form2 HF63.r0; subst hv62; clear j0 j1 j2 j3 j4; clear HR; have HR := Lib.hid hr; clear hr; obtain ⟨t64, HT64⟩ := hidE (tokT c s62); (try simp only [NM, reduceIte, HT64.out] at HR); obtain ⟨j0, j1, j2, j3, j4⟩ := HF63.b1.t5; go_wp2_with fail; refine hK.out _ _ (fun _ => ?_) (fun hE => ?_)
        · exact ⟨j0, j1, j2, j3, j4⟩
        clear hS; (have hS := hE (by kernel_rfl)); clear hK K hE; (try simp only [AP]); refine wpAnyT_pure (i := 4) (v := ?v9_4_65) rfl (by kernel_rfl) (fun _ _ _ h => h) (Or.inl ⟨by rfl, ?y9_4_65⟩) (fun _ => hS) ?_
        case y9_4_65 => (intro w hSw; go_simp; try with_reducible rfl)
        (try simp only [AP]); (refine wpAnyT_ready (rs := [5]) (by kernel_rfl) rfl ?_); (refine AllT.cons rfl (fun K hK => ?_) AllT.nil); go_simp; refine HF63.putT HB.out t2 { kind := 2, kids := l62 } 40 ((.slice A62 N62 cp62)) [.box 3 b5 59 (TC t2)] (.inr List.mem_cons_self) (by simp [Loc.key]) HR.out ?_ ?_
        · rintro s9 w9 rfl hq9; go_wp2_with fail; exact ⟨rfl, rfl, hq9.sub (by simp)⟩
        intro i66 s66 w66 hi66 HF67 hr; unfold kidC; clear j0 j1 j2 j3 j4; clear HR; have HR := Lib.hid hr; clear hr; obtain ⟨j0, j1, j2, j3, j4⟩ := HF67.b0.t5; go_wp2_with fail; refine hK.out _ _ (fun _ => ?_) (fun hE => ?_)
        · exact ⟨j0, j1, j2, j3, j4⟩
        clear hS; (have hS := hE (by kernel_rfl)); clear hK K hE; (try simp only [AP]); (refine wpAnyT_ready (rs := [6]) (by kernel_rfl) rfl ?_); (refine AllT.cons rfl (fun K hK => ?_) AllT.nil); go_simp; refine hK.out _ _ (fun _ => ?_) (fun hE => ?_)
        · exact ⟨j0, j1, j2, j3, j4⟩
        clear hS; (have hS := hE (by kernel_rfl)); clear hK K hE; (try simp only [AP]); (refine wpAnyT_done (by kernel_rfl) ?_ _); clear hS; have hr := HR.out; clear HR; subst hr; go_wp2_with fail; go_ret; exact ⟨⟨rfl, hi66⟩, HF67.sub (by simp)⟩
    · simp only [NB] at nq10; (try simp only [NM, reduceIte] at HR); go_wp2_with fail
      with_reducible refine HF6.tail HIm.out HB.out HR.out HO.out ?_ ?_
      · rintro s9 w9 rfl hq9; go_wp2_with fail; exact ⟨rfl, rfl, hq9.sub (by simp)⟩
      rintro a68 s68 e w68 ⟨rfl, hi68⟩ HF69 hr; unfold kidC; clear j0 j1 j2 j3 j4; clear HR; have HR := Lib.hid hr; clear hr; obtain ⟨j0, j1, j2, j3, j4⟩ := HF69.b0.t5; have hr := HR.out; clear HR; subst hr; go_wp2_with fail; go_ret; exact ⟨⟨rfl, hi68⟩, HF69.sub (by simp)⟩
end
end Go.Proofs.YtcjoapmodaioiaaGreatDoor
