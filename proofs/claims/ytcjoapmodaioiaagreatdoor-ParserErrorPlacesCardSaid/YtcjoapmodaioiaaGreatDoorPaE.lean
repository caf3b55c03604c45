/- The parser's requirements and signatures, walked. -/
import Derived.Test.YtcjoapmodaioiaaGreatDoorPaD
set_option linter.unusedVariables false
set_option linter.unusedSimpArgs false
namespace Go.Proofs.YtcjoapmodaioiaaGreatDoor
open Go.RowKit Go.Shelf Pa
set_option maxRecDepth 100000
set_option maxHeartbeats 8000000

section
variable {c : Cx}
theorem preds_any (hS : TokSt c.l) (n : Nat) (hn : n ≤ 1000000) : MethR c 149 #[.pointer (some ⟨c.bp, 0, none⟩)] (preds (c.l.map Tok.bt) n) := by
  (refine MethR.mk fun E s0 r W HF1 hb hr ho => ?_); have HN := Lib.hid (next_any hS); (have HK := Lib.hid (fun k => kind_any hS k)); (have HWt := Lib.hid (fun k x => want_any hS k x)); have HB := Lib.hid hb; have HO := Lib.hid ho; unfold Pa.preds at hr
  cases hsc : scanAt (c.l.map Tok.bt) n s0.pos with
  | none => rw [hsc] at hr; exact absurd hr.symm ho
  | some j =>
    rw [hsc] at hr; dsimp only at hr; have HR := Lib.hid hr; clear hr hb ho; obtain ⟨nv, bv, G, ns, hC⟩ := HF1.out; have htk := hC.pa.toks; have hbox := hC.pa.box; have hp := hC.pa.pos; have hlen := hS.len; clear hC; obtain ⟨A, q, hlv, hq1, hq2, _⟩ := htk.form; rw [hlv] at htk hbox; obtain ⟨g, off, rfl, _⟩ := Tok.get htk hp
    have HTk : Hid (∀ i, i < c.l.length → W.cell? ⟨g, off + i * 5, none⟩ = some (.int .i64 (c.l.getD i endTok).kind) ∧ W.cell? ⟨g, off + i * 5 + 1, none⟩ = some (.string (c.l.getD i endTok).text)) := fun i hi => by
      obtain ⟨g2, off2, e1, -, l0, l1, _⟩ := Tok.get htk hi; simp only [Option.some.injEq, Addr.mk.injEq, and_true] at e1; obtain ⟨rfl, rfl⟩ := e1; (rw [show c.l.getD i endTok = c.l[i] from by rw [List.getD_eq_getElem?_getD, List.getElem?_eq_getElem hi]; rfl]); exact ⟨l0, l1⟩
    have HLst : Hid (∀ i, i < c.l.length → (c.l.getD i endTok).kind ≠ 9 → i + 1 < c.l.length) := fun i hi hk => by
      have e2 := hS.last i hi; (rw [show c.l.getD i endTok = c.l[i] from by rw [List.getD_eq_getElem?_getD, List.getElem?_eq_getElem hi]; rfl] at hk); (have : ¬ i + 1 = c.l.length := fun e => hk (e2.2 e)); omega
    have c0 := hbox.cell (i := 0) rfl; have c1 := hbox.cell (i := 1) rfl; obtain ⟨m, hm⟩ : ∃ m, c.l.length = m := ⟨_, rfl⟩; rw [hm] at HTk HLst c0 hp hlen; obtain ⟨n0, hn0⟩ : ∃ n0, s0.pos = n0 := ⟨_, rfl⟩; rw [hn0] at hp c1 hsc; (have hmI : (m : Int) ≤ 200000 := by omega); have HSc := Lib.hid hsc; have HP := Lib.hid hp; clear htk hbox hm hn0 hsc hp hlv hq1 hq2; go_enter Tryz.func149, Tryz.ntmps149; go_wp2_with fail; go_loopg [3] n (fun gk v3 wr => ∃ i : Nat, v3 = .int .i64 (i : Int) ∧ i < m ∧ wr = W ∧ Hid (scanAt (c.l.map Tok.bt) gk i = some j))
    case atStart => exact ⟨n0, rfl, HP.out, rfl, HSc.out⟩
    case round =>
      obtain ⟨i, rfl, hi, rfl, hsc⟩ := hrel; obtain _ | m2 := gk
      · exact absurd hsc.out (by simp [scanAt])
      (have hw1 : IntKind.i64.wrap (i : Int) = (i : Int) := by rw [IntKind.wrap_i64]; omega); (have hi0 : (0 : Int) ≤ (i : Int) := by omega); (have hi1 : (i : Int) < (m : Int) := by omega); obtain ⟨l0, l1⟩ := HTk.out i hi; have hnx := HLst.out i hi; have hsc := hsc.out; simp only [scanAt] at hsc
      have htok : tokAt (c.l.map Tok.bt) i = (c.l.getD i endTok).bt := by
        unfold tokAt; simp only [List.getD_eq_getElem?_getD, List.getElem?_map]; cases c.l[i]? <;> rfl
      rw [htok] at hsc; obtain ⟨u, hu⟩ : ∃ u, c.l.getD i endTok = u := ⟨_, rfl⟩; rw [hu] at hsc l0 l1 hnx htok; obtain ⟨q1, hq1⟩ : ∃ q, (u.kind == 1) = q := ⟨_, rfl⟩; obtain ⟨q2, hq2⟩ : ∃ q, (u.kind == 0) = q := ⟨_, rfl⟩; obtain ⟨q3, hq3⟩ : ∃ q, (u.kind == 5) = q := ⟨_, rfl⟩; obtain ⟨q4, hq4⟩ : ∃ q, (u.text.toList == [44]) = q := ⟨_, rfl⟩
      have hcd : ((u.bt.kind == 1 || u.bt.kind == 0 || isB u.bt 5 ⟨#[44]⟩) = true) = ((q1 || q2 || (q3 && q4)) = true) := by
        unfold isB; rw [isX_eq, show (⟨#[44]⟩ : ByteArray).toList = [44] from by kernel_rfl]
        show ((u.kind == 1 || u.kind == 0 || (u.kind == 5 && (u.text.toList == [44]))) = true) = _
        rw [hq1, hq2, hq3, hq4]
      simp only [hcd] at hsc
      have hn9 : (q1 || q2 || (q3 && q4)) = true → i + 1 < m := fun h => hnx (fun e9 => by
        rw [e9] at hq1 hq2 hq3; have e1 : q1 = false := hq1.symm; have e2 : q2 = false := hq2.symm; have e3 : q3 = false := hq3.symm
        rw [e1, e2, e3] at h; cases h)
      have HSs := Lib.hid hsc; have HN9 := Lib.hid hn9; have HTok := Lib.hid htok; clear hsc hnx hcd hn9 hu htok; cases q1
      · cases q2
        · cases q3
          · (have hj : i = j := by have h := HSs.out; simp only [Bool.false_or, Bool.and_false, Bool.false_and, Bool.false_eq_true, if_false] at h; exact Option.some.inj h); subst hj; clear HSs HN9; obtain ⟨q5, hq5⟩ : ∃ q, (u.kind == 4) = q := ⟨_, rfl⟩; obtain ⟨q6, hq6⟩ : ∃ q, (u.text.toList == [61, 62]) = q := ⟨_, rfl⟩; (have n5 : (u.kind != 4) = !q5 := by rw [bne, hq5]); have n6 : (u.text.toList != [61, 62]) = !q6 := by rw [bne, hq6]
            have hcd : (isB u.bt 4 ⟨#[61, 62]⟩ = true) = ((q5 && q6) = true) := by
              unfold isB; rw [isX_eq, show (⟨#[61, 62]⟩ : ByteArray).toList = [61, 62] from by kernel_rfl]
              show ((u.kind == 4 && (u.text.toList == [61, 62])) = true) = _
              rw [hq5, hq6]
            have hr := HR.out; clear HR; rw [HTok.out] at hr; simp only [hcd] at hr; have HR := Lib.hid hr; clear hr hcd; cases q5
            · simp only [NB] at n5 n6; have hr := HR.out; clear HR; simp only [Bool.and_false, Bool.false_and, Bool.false_eq_true, if_false] at hr; subst hr; go_wp2_with fail; go_ret; exact ⟨_, rfl, by simp, HF1.nil 0⟩
            · cases q6
              · simp only [NB] at n5 n6; have hr := HR.out; clear HR; simp only [Bool.and_false, Bool.false_and, Bool.false_eq_true, if_false] at hr; subst hr; go_wp2_with fail; go_ret; exact ⟨_, rfl, by simp, HF1.nil 0⟩
              · simp only [NB] at n5 n6; have hr := HR.out; clear HR; simp only [Bool.and_true, if_true] at hr; unfold predList at hr; have HR := Lib.hid hr; clear hr; obtain ⟨t2, HT2⟩ := hidE (tokT c s0); (try simp only [NM, reduceIte, bt_n] at HR); have fld0 := fldT0; have fld1 := fldT1; have fld2 := fldT2; have HF3 := HF1.nil 4; have hr := HR.out; clear HR; obtain ⟨F4, g4, hFF4, hGG4, hr⟩ := split_loop hr; have HFF4 := Lib.hid hFF4; have HGG4 := Lib.hid hGG4; have HR := Lib.hid hr; clear hr hFF4 hGG4; (have HF5 := HF3.sub (L' := [.row 4 (.slice none 0 0) []]) (by simp)); clear HF3; go_wp2_with fail; go_loopg [4] n (fun gk x4 wr => ∃ (s5 : Ps) (l5 : List Nat), Fr c E 0 [.row 4 x4 l5] s5 wr ∧ l5.length + gk ≤ 1000000 ∧ Hid ((loop F4 gk l5 >>= g4) s5 = r))
                case atStart => exact ⟨s0, [], HF5.out, by (try simp only [List.length_nil, List.length_cons]); omega, HR.out⟩
                case round =>
                  obtain ⟨w4, rfl⟩ : ∃ w, w = wr := ⟨_, rfl⟩; clear HR HF5; obtain ⟨s4, l4, HF6, hl4, hr⟩ := hrel; obtain ⟨A4, cp4, hv4, _⟩ := own_formP HF6.r0; subst hv4; obtain _ | m4 := gk
                  · exact absurd (loop_zero hr.out) HO.out
                  have HR := Lib.hid (loop_step hr.out HFF4.out); clear hr; obtain ⟨t7, HT7⟩ := hidE (tokT c s4); (try simp only [NM, reduceIte, HT7.out, bt_n] at HR); obtain ⟨q8, hq8⟩ : ∃ q, isB t7.bt 4 ⟨#[61, 62]⟩ = q := ⟨_, rfl⟩; have HI8 := Lib.hid (HF6.iskey ⟨#[61, 62]⟩); rw [HT7.out, hq8] at HI8; (try simp only [NM, reduceIte, hq8, bt_n] at HR); clear hq8; go_wp2_with fail
                  with_reducible refine HI8.out.mono ?_
                  rintro e w8 ⟨rfl, HF9⟩; cases q8
                  · (try simp only [NM, reduceIte, bt_n] at HR); by_cases h04 : 0 < l4.length
                    · (have hd4 : decide (0 < l4.length) = true := by simpa using h04); (try simp only [NM, reduceIte, h04, bt_n] at HR); go_wp2_with fail
                      with_reducible refine HF9.bind (HWt.out 5 ⟨#[44]⟩) HB.out HR.out HO.out ?_ ?_
                      · rintro s9 w9 rfl hq9; go_wp2_with fail; exact ⟨rfl, rfl, hq9.sub (by simp)⟩
                      rintro a10 s10 e w10 ⟨u10, rfl, rfl, hwf10⟩ HF11 hr; clear HR; have HR := Lib.hid hr; clear hr; obtain ⟨t12, HT12⟩ := hidE (tokT c s10); (try simp only [NM, reduceIte, HT12.out, bt_n] at HR); go_wp2_with fail
                      with_reducible refine HF11.bind (HK.out 1) HB.out HR.out HO.out ?_ ?_
                      · rintro s9 w9 rfl hq9; go_wp2_with fail; exact ⟨rfl, rfl, hq9.sub (by simp)⟩
                      rintro a13 s13 e w13 ⟨u13, rfl, rfl, hwf13⟩ HF14 hr; clear HR; have HR := Lib.hid hr; clear hr; obtain ⟨t15, HT15⟩ := hidE (tokT c s13); (try simp only [NM, reduceIte, HT15.out, bt_n] at HR); go_upto_region 11 with (fail); obtain ⟨b16, w16, hb16, hw16, HF17⟩ := HF14.boxT 5 u13; rw [hw16, hb16]; clear hw16 hb16; obtain ⟨j0, j1, j2, j3, j4⟩ := HF17.b0.t5; go_wp2_with fail
                      with_reducible refine HF17.bind (HK.out 0) HB.out HR.out HO.out ?_ ?_
                      · rintro s9 w9 rfl hq9; go_wp2_with fail; exact ⟨rfl, rfl, hq9.sub (by simp)⟩
                      rintro a18 s18 e w18 ⟨u18, rfl, rfl, hwf18⟩ HF19 hr; clear j0 j1 j2 j3 j4; clear HR; have HR := Lib.hid hr; clear hr; obtain ⟨t20, HT20⟩ := hidE (tokT c s18); (try simp only [NM, reduceIte, HT20.out, bt_n] at HR); obtain ⟨j0, j1, j2, j3, j4⟩ := HF19.b0.t5; go_upto_region 12 with (fail); obtain ⟨b21, w21, hb21, hw21, HF22⟩ := HF19.boxT 6 u18; rw [hw21, hb21]; clear hw21 hb21; clear j0 j1 j2 j3 j4; obtain ⟨j5, j6, j7, j8, j9⟩ := HF22.b0.t5; obtain ⟨j0, j1, j2, j3, j4⟩ := HF22.b1.t5; go_upto_region 12 with (fail); refine wp_region_till [] (fun X => X.cell? ⟨b21, 0, none⟩ = some (.int .i64 u18.kind) ∧ X.cell? ⟨b21, 1, none⟩ = some (.string u18.text) ∧ X.cell? ⟨b21, 2, none⟩ = some (.int .i64 u18.n) ∧ X.cell? ⟨b21, 3, none⟩ = some (.int .i64 u18.line) ∧ X.cell? ⟨b21, 4, none⟩ = some (.int .i64 u18.col) ∧ X.cell? ⟨b16, 0, none⟩ = some (.int .i64 u13.kind) ∧ X.cell? ⟨b16, 1, none⟩ = some (.string u13.text) ∧ X.cell? ⟨b16, 2, none⟩ = some (.int .i64 u13.n) ∧ X.cell? ⟨b16, 3, none⟩ = some (.int .i64 u13.line) ∧ X.cell? ⟨b16, 4, none⟩ = some (.int .i64 u13.col)) (by kernel_rfl) ?_ (fun hE => ?_)
                      · exact ⟨j5, j6, j7, j8, j9, j0, j1, j2, j3, j4⟩
                      (have hS := hE (by kernel_rfl)); obtain ⟨w23, hw23⟩ : ∃ x, World.drew w21 = x := ⟨_, rfl⟩; rw [hw23] at hS ⊢; have HF24 := HF22.drew; rw [hw23] at HF24; clear hE hw23; clear j5 j6 j7 j8 j9 j0 j1 j2 j3 j4; obtain ⟨j5, j6, j7, j8, j9⟩ := HF24.b0.t5; obtain ⟨j0, j1, j2, j3, j4⟩ := HF24.b1.t5; refine wpAnyT_pure (i := 0) (v := ?v12_0_25) rfl (by kernel_rfl) (fun _ _ _ h => h) (Or.inl ⟨by rfl, ?y12_0_25⟩) (fun _ => hS) ?_
                      case y12_0_25 => (intro w hSw; go_simp; try with_reducible rfl)
                      (try simp only [AP]); refine wpAnyT_pure (i := 1) (v := ?v12_1_26) rfl (by kernel_rfl) (fun _ _ _ h => h) (Or.inl ⟨by rfl, ?y12_1_26⟩) (fun _ => hS) ?_
                      case y12_1_26 => (intro w hSw; go_simp; try with_reducible rfl)
                      (try simp only [AP]); refine wpAnyT_take (i := 2) (v := ?v12_2_27) rfl (by kernel_rfl) (fun _ _ _ h => h) (Or.inl ⟨by rfl, ?y12_2_27⟩) hS ?_
                      case y12_2_27 => (intro w hSw; (try dsimp only at hSw); go_simp; try with_reducible rfl)
                      (try simp only [AP]); refine wpAnyT_pure (i := 3) (v := ?v12_3_28) rfl (by kernel_rfl) (fun _ _ _ h => h) (Or.inl ⟨by rfl, ?y12_3_28⟩) (fun _ => hS) ?_
                      case y12_3_28 => (intro w hSw; go_simp; try with_reducible rfl)
                      (try simp only [AP]); refine wpAnyT_take (i := 4) (v := ?v12_4_29) rfl (by kernel_rfl) (fun _ _ _ h => h) (Or.inl ⟨by rfl, ?y12_4_29⟩) hS ?_
                      case y12_4_29 => (intro w hSw; (try dsimp only at hSw); go_simp; try with_reducible rfl)
                      (try simp only [AP]); refine wpAnyT_pure (i := 5) (v := ?v12_5_30) rfl (by kernel_rfl) (fun _ _ _ h => h) (Or.inl ⟨by rfl, ?y12_5_30⟩) (fun _ => hS) ?_
                      case y12_5_30 => (intro w hSw; go_simp; try with_reducible rfl)
                      (try simp only [AP]); refine wpAnyT_take (i := 6) (v := ?v12_6_31) rfl (by kernel_rfl) (fun _ _ _ h => h) (Or.inl ⟨by rfl, ?y12_6_31⟩) hS ?_
                      case y12_6_31 => (intro w hSw; (try dsimp only at hSw); go_simp; try with_reducible rfl)
                      (try simp only [AP]); refine wpAnyT_pure (i := 7) (v := ?v12_7_32) rfl (by kernel_rfl) (fun _ _ _ h => h) (Or.inl ⟨by rfl, ?y12_7_32⟩) (fun _ => hS) ?_
                      case y12_7_32 => (intro w hSw; go_simp; try with_reducible rfl)
                      (try simp only [AP]); refine wpAnyT_take (i := 8) (v := ?v12_8_33) rfl (by kernel_rfl) (fun _ _ _ h => h) (Or.inl ⟨by rfl, ?y12_8_33⟩) hS ?_
                      case y12_8_33 => (intro w hSw; (try dsimp only at hSw); go_simp; try with_reducible rfl)
                      (try simp only [AP]); refine wpAnyT_pure (i := 9) (v := ?v12_9_34) rfl (by kernel_rfl) (fun _ _ _ h => h) (Or.inl ⟨by rfl, ?y12_9_34⟩) (fun _ => hS) ?_
                      case y12_9_34 => (intro w hSw; go_simp; try with_reducible rfl)
                      (try simp only [AP]); (refine wpAnyT_ready (rs := [10]) (by kernel_rfl) rfl ?_); (refine AllT.cons rfl (fun K hK => ?_) AllT.nil); go_simp; refine HF24.put HB.out u18 { kind := 14, text := u18.text } 999 (.slice none 0 0) [.box 6 b21 59 (TC u18), .box 5 b16 59 (TC u13), .row 4 (.slice A4 l4.length cp4) l4] (.inl ⟨rfl, rfl⟩) (by simp [Loc.key]) HR.out ?_ ?_
                      · rintro s9 w9 rfl hq9; go_wp2_with fail; exact ⟨rfl, rfl, hq9.sub (by simp)⟩
                      intro i35 s35 w35 hi35 HF36 hr; unfold kidC; clear j5 j6 j7 j8 j9 j0 j1 j2 j3 j4; clear HR; have HR := Lib.hid hr; clear hr; obtain ⟨t37, HT37⟩ := hidE (tokT c s35); (try simp only [NM, reduceIte, HT37.out, bt_n] at HR); obtain ⟨j5, j6, j7, j8, j9⟩ := HF36.b0.t5; obtain ⟨j0, j1, j2, j3, j4⟩ := HF36.b1.t5; go_wp2_with fail; refine hK.out _ _ (fun _ => ?_) (fun hE => ?_)
                      · exact ⟨j5, j6, j7, j8, j9, j0, j1, j2, j3, j4⟩
                      clear hS; (have hS := hE (by kernel_rfl)); clear hK K hE; (try simp only [AP]); (refine wpAnyT_ready (rs := [11]) (by kernel_rfl) rfl ?_); (refine AllT.cons rfl (fun K hK => ?_) AllT.nil); go_simp; refine name_world ?_; intro w38 hw38; have HF39 := HF36.kid1 97 i35 hi35; rw [← hw38] at HF39; obtain ⟨b38, hb38⟩ : ∃ b, w35.heap.size = b := ⟨_, rfl⟩; rw [hb38] at HF39 ⊢; clear hw38 hb38; clear j5 j6 j7 j8 j9 j0 j1 j2 j3 j4; obtain ⟨j5, j6, j7, j8, j9⟩ := HF39.b1.t5; obtain ⟨j0, j1, j2, j3, j4⟩ := HF39.b2.t5; refine hK.out _ _ (fun _ => ?_) (fun hE => ?_)
                      · exact ⟨j5, j6, j7, j8, j9, j0, j1, j2, j3, j4⟩
                      clear hS; (have hS := hE (by kernel_rfl)); clear hK K hE; (try simp only [AP]); refine wpAnyT_pure (i := 12) (v := ?v12_12_40) rfl (by kernel_rfl) (fun _ _ _ h => h) (Or.inl ⟨by rfl, ?y12_12_40⟩) (fun _ => hS) ?_
                      case y12_12_40 => (intro w hSw; go_simp; try with_reducible rfl)
                      (try simp only [AP]); (refine wpAnyT_ready (rs := [13]) (by kernel_rfl) rfl ?_); (refine AllT.cons rfl (fun K hK => ?_) AllT.nil); go_simp; refine HF39.put HB.out u13 { kind := 11, text := u13.text, kids := [i35] } 97 ((.slice (some ⟨b38, 0, none⟩) 1 1)) [.box 6 b21 59 (TC u18), .box 5 b16 59 (TC u13), .row 4 (.slice A4 l4.length cp4) l4] (.inr List.mem_cons_self) (by simp [Loc.key]) HR.out ?_ ?_
                      · rintro s9 w9 rfl hq9; go_wp2_with fail; exact ⟨rfl, rfl, hq9.sub (by simp)⟩
                      intro i41 s41 w41 hi41 HF42 hr; unfold kidC; clear j5 j6 j7 j8 j9 j0 j1 j2 j3 j4; clear HR; have HR := Lib.hid hr; clear hr; obtain ⟨t43, HT43⟩ := hidE (tokT c s41); (try simp only [NM, reduceIte, HT43.out, bt_n] at HR); obtain ⟨j5, j6, j7, j8, j9⟩ := HF42.b0.t5; obtain ⟨j0, j1, j2, j3, j4⟩ := HF42.b1.t5; go_wp2_with fail; refine hK.out _ _ (fun _ => ?_) (fun hE => ?_)
                      · exact ⟨j5, j6, j7, j8, j9, j0, j1, j2, j3, j4⟩
                      clear hS; (have hS := hE (by kernel_rfl)); clear hK K hE; (try simp only [AP]); (refine wpAnyT_ready (rs := [14]) (by kernel_rfl) rfl ?_); (refine AllT.cons rfl (fun K hK => ?_) AllT.nil); go_simp; refine name_world ?_; intro w44 hw44; have HF45 := HF42.kid1 98 i41 hi41; rw [← hw44] at HF45; obtain ⟨b44, hb44⟩ : ∃ b, w41.heap.size = b := ⟨_, rfl⟩; rw [hb44] at HF45 ⊢; clear hw44 hb44; clear j5 j6 j7 j8 j9 j0 j1 j2 j3 j4; obtain ⟨j5, j6, j7, j8, j9⟩ := HF45.b1.t5; obtain ⟨j0, j1, j2, j3, j4⟩ := HF45.b2.t5; refine hK.out _ _ (fun _ => ?_) (fun hE => ?_)
                      · exact ⟨j5, j6, j7, j8, j9, j0, j1, j2, j3, j4⟩
                      clear hS; (have hS := hE (by kernel_rfl)); clear hK K hE; (try simp only [AP]); (refine wpAnyT_ready (rs := [15]) (by kernel_rfl) rfl ?_); (refine AllT.cons rfl (fun K hK => ?_) AllT.nil); (refine HF45.st_app rfl 4 (List.mem_cons_of_mem _ (List.mem_cons_of_mem _ (List.mem_cons_of_mem _ List.mem_cons_self))) _ _ rfl rfl List.mem_cons_self hi41 rfl (by (try simp only [List.length_append, List.length_nil, List.length_cons]); omega) (L' := [.box 6 b21 59 (TC u18), .box 5 b16 59 (TC u13)]) (by simp [Loc.key]) ?_); intro v46 w46 HF47; obtain ⟨A46, N46, cp46, hv46, hN46⟩ := own_form2 HF47.r0; subst hv46; clear j5 j6 j7 j8 j9 j0 j1 j2 j3 j4; obtain ⟨j5, j6, j7, j8, j9⟩ := HF47.b1.t5; obtain ⟨j0, j1, j2, j3, j4⟩ := HF47.b2.t5; refine hK.out _ _ (fun _ => ?_) (fun hE => ?_)
                      · exact ⟨j5, j6, j7, j8, j9, j0, j1, j2, j3, j4⟩
                      clear hS; (have hS := hE (by kernel_rfl)); clear hK K hE; (try simp only [AP]); (refine wpAnyT_ready (rs := [16]) (by kernel_rfl) rfl ?_); (refine AllT.cons rfl (fun K hK => ?_) AllT.nil); go_simp; refine hK.out _ _ (fun _ => ?_) (fun hE => ?_)
                      · exact ⟨j5, j6, j7, j8, j9, j0, j1, j2, j3, j4⟩
                      clear hS; (have hS := hE (by kernel_rfl)); clear hK K hE; (try simp only [AP]); (refine wpAnyT_done (by kernel_rfl) ?_ _); clear hS; clear j5 j6 j7 j8 j9 j0 j1 j2 j3 j4; go_wp2_with fail; go_roundg m4
                      case measure => omega
                      case rel => exact ⟨s41, (l4 ++ [i41]), HF47.sub (L' := [.row 4 (.slice A46 N46 cp46) (l4 ++ [i41])]) (by simp), by (try simp only [List.length_append, List.length_nil, List.length_cons]); omega, HR.out⟩
                    · (have hd4 : decide (0 < l4.length) = false := by simpa using h04); (try simp only [NM, reduceIte, h04, bt_n] at HR); go_wp2_with fail
                      with_reducible refine HF9.bind (HK.out 1) HB.out HR.out HO.out ?_ ?_
                      · rintro s9 w9 rfl hq9; go_wp2_with fail; exact ⟨rfl, rfl, hq9.sub (by simp)⟩
                      rintro a48 s48 e w48 ⟨u48, rfl, rfl, hwf48⟩ HF49 hr; clear HR; have HR := Lib.hid hr; clear hr; obtain ⟨t50, HT50⟩ := hidE (tokT c s48); (try simp only [NM, reduceIte, HT50.out, bt_n] at HR); go_upto_region 11 with (fail); obtain ⟨b51, w51, hb51, hw51, HF52⟩ := HF49.boxT 5 u48; rw [hw51, hb51]; clear hw51 hb51; obtain ⟨j0, j1, j2, j3, j4⟩ := HF52.b0.t5; go_wp2_with fail
                      with_reducible refine HF52.bind (HK.out 0) HB.out HR.out HO.out ?_ ?_
                      · rintro s9 w9 rfl hq9; go_wp2_with fail; exact ⟨rfl, rfl, hq9.sub (by simp)⟩
                      rintro a53 s53 e w53 ⟨u53, rfl, rfl, hwf53⟩ HF54 hr; clear j0 j1 j2 j3 j4; clear HR; have HR := Lib.hid hr; clear hr; obtain ⟨t55, HT55⟩ := hidE (tokT c s53); (try simp only [NM, reduceIte, HT55.out, bt_n] at HR); obtain ⟨j0, j1, j2, j3, j4⟩ := HF54.b0.t5; go_upto_region 12 with (fail); obtain ⟨b56, w56, hb56, hw56, HF57⟩ := HF54.boxT 6 u53; rw [hw56, hb56]; clear hw56 hb56; clear j0 j1 j2 j3 j4; obtain ⟨j5, j6, j7, j8, j9⟩ := HF57.b0.t5; obtain ⟨j0, j1, j2, j3, j4⟩ := HF57.b1.t5; go_upto_region 12 with (fail); refine wp_region_till [] (fun X => X.cell? ⟨b56, 0, none⟩ = some (.int .i64 u53.kind) ∧ X.cell? ⟨b56, 1, none⟩ = some (.string u53.text) ∧ X.cell? ⟨b56, 2, none⟩ = some (.int .i64 u53.n) ∧ X.cell? ⟨b56, 3, none⟩ = some (.int .i64 u53.line) ∧ X.cell? ⟨b56, 4, none⟩ = some (.int .i64 u53.col) ∧ X.cell? ⟨b51, 0, none⟩ = some (.int .i64 u48.kind) ∧ X.cell? ⟨b51, 1, none⟩ = some (.string u48.text) ∧ X.cell? ⟨b51, 2, none⟩ = some (.int .i64 u48.n) ∧ X.cell? ⟨b51, 3, none⟩ = some (.int .i64 u48.line) ∧ X.cell? ⟨b51, 4, none⟩ = some (.int .i64 u48.col)) (by kernel_rfl) ?_ (fun hE => ?_)
                      · exact ⟨j5, j6, j7, j8, j9, j0, j1, j2, j3, j4⟩
                      (have hS := hE (by kernel_rfl)); obtain ⟨w58, hw58⟩ : ∃ x, World.drew w56 = x := ⟨_, rfl⟩; rw [hw58] at hS ⊢; have HF59 := HF57.drew; rw [hw58] at HF59; clear hE hw58; clear j5 j6 j7 j8 j9 j0 j1 j2 j3 j4; obtain ⟨j5, j6, j7, j8, j9⟩ := HF59.b0.t5; obtain ⟨j0, j1, j2, j3, j4⟩ := HF59.b1.t5; refine wpAnyT_pure (i := 0) (v := ?v12_0_60) rfl (by kernel_rfl) (fun _ _ _ h => h) (Or.inl ⟨by rfl, ?y12_0_60⟩) (fun _ => hS) ?_
                      case y12_0_60 => (intro w hSw; go_simp; try with_reducible rfl)
                      (try simp only [AP]); refine wpAnyT_pure (i := 1) (v := ?v12_1_61) rfl (by kernel_rfl) (fun _ _ _ h => h) (Or.inl ⟨by rfl, ?y12_1_61⟩) (fun _ => hS) ?_
                      case y12_1_61 => (intro w hSw; go_simp; try with_reducible rfl)
                      (try simp only [AP]); refine wpAnyT_take (i := 2) (v := ?v12_2_62) rfl (by kernel_rfl) (fun _ _ _ h => h) (Or.inl ⟨by rfl, ?y12_2_62⟩) hS ?_
                      case y12_2_62 => (intro w hSw; (try dsimp only at hSw); go_simp; try with_reducible rfl)
                      (try simp only [AP]); refine wpAnyT_pure (i := 3) (v := ?v12_3_63) rfl (by kernel_rfl) (fun _ _ _ h => h) (Or.inl ⟨by rfl, ?y12_3_63⟩) (fun _ => hS) ?_
                      case y12_3_63 => (intro w hSw; go_simp; try with_reducible rfl)
                      (try simp only [AP]); refine wpAnyT_take (i := 4) (v := ?v12_4_64) rfl (by kernel_rfl) (fun _ _ _ h => h) (Or.inl ⟨by rfl, ?y12_4_64⟩) hS ?_
                      case y12_4_64 => (intro w hSw; (try dsimp only at hSw); go_simp; try with_reducible rfl)
                      (try simp only [AP]); refine wpAnyT_pure (i := 5) (v := ?v12_5_65) rfl (by kernel_rfl) (fun _ _ _ h => h) (Or.inl ⟨by rfl, ?y12_5_65⟩) (fun _ => hS) ?_
                      case y12_5_65 => (intro w hSw; go_simp; try with_reducible rfl)
                      (try simp only [AP]); refine wpAnyT_take (i := 6) (v := ?v12_6_66) rfl (by kernel_rfl) (fun _ _ _ h => h) (Or.inl ⟨by rfl, ?y12_6_66⟩) hS ?_
                      case y12_6_66 => (intro w hSw; (try dsimp only at hSw); go_simp; try with_reducible rfl)
                      (try simp only [AP]); refine wpAnyT_pure (i := 7) (v := ?v12_7_67) rfl (by kernel_rfl) (fun _ _ _ h => h) (Or.inl ⟨by rfl, ?y12_7_67⟩) (fun _ => hS) ?_
                      case y12_7_67 => (intro w hSw; go_simp; try with_reducible rfl)
                      (try simp only [AP]); refine wpAnyT_take (i := 8) (v := ?v12_8_68) rfl (by kernel_rfl) (fun _ _ _ h => h) (Or.inl ⟨by rfl, ?y12_8_68⟩) hS ?_
                      case y12_8_68 => (intro w hSw; (try dsimp only at hSw); go_simp; try with_reducible rfl)
                      (try simp only [AP]); refine wpAnyT_pure (i := 9) (v := ?v12_9_69) rfl (by kernel_rfl) (fun _ _ _ h => h) (Or.inl ⟨by rfl, ?y12_9_69⟩) (fun _ => hS) ?_
                      case y12_9_69 => (intro w hSw; go_simp; try with_reducible rfl)
                      (try simp only [AP]); (refine wpAnyT_ready (rs := [10]) (by kernel_rfl) rfl ?_); (refine AllT.cons rfl (fun K hK => ?_) AllT.nil); go_simp; refine HF59.put HB.out u53 { kind := 14, text := u53.text } 999 (.slice none 0 0) [.box 6 b56 59 (TC u53), .box 5 b51 59 (TC u48), .row 4 (.slice A4 l4.length cp4) l4] (.inl ⟨rfl, rfl⟩) (by simp [Loc.key]) HR.out ?_ ?_
                      · rintro s9 w9 rfl hq9; go_wp2_with fail; exact ⟨rfl, rfl, hq9.sub (by simp)⟩
                      intro i70 s70 w70 hi70 HF71 hr; unfold kidC; clear j5 j6 j7 j8 j9 j0 j1 j2 j3 j4; clear HR; have HR := Lib.hid hr; clear hr; obtain ⟨t72, HT72⟩ := hidE (tokT c s70); (try simp only [NM, reduceIte, HT72.out, bt_n] at HR); obtain ⟨j5, j6, j7, j8, j9⟩ := HF71.b0.t5; obtain ⟨j0, j1, j2, j3, j4⟩ := HF71.b1.t5; go_wp2_with fail; refine hK.out _ _ (fun _ => ?_) (fun hE => ?_)
                      · exact ⟨j5, j6, j7, j8, j9, j0, j1, j2, j3, j4⟩
                      clear hS; (have hS := hE (by kernel_rfl)); clear hK K hE; (try simp only [AP]); (refine wpAnyT_ready (rs := [11]) (by kernel_rfl) rfl ?_); (refine AllT.cons rfl (fun K hK => ?_) AllT.nil); go_simp; refine name_world ?_; intro w73 hw73; have HF74 := HF71.kid1 97 i70 hi70; rw [← hw73] at HF74; obtain ⟨b73, hb73⟩ : ∃ b, w70.heap.size = b := ⟨_, rfl⟩; rw [hb73] at HF74 ⊢; clear hw73 hb73; clear j5 j6 j7 j8 j9 j0 j1 j2 j3 j4; obtain ⟨j5, j6, j7, j8, j9⟩ := HF74.b1.t5; obtain ⟨j0, j1, j2, j3, j4⟩ := HF74.b2.t5; refine hK.out _ _ (fun _ => ?_) (fun hE => ?_)
                      · exact ⟨j5, j6, j7, j8, j9, j0, j1, j2, j3, j4⟩
                      clear hS; (have hS := hE (by kernel_rfl)); clear hK K hE; (try simp only [AP]); refine wpAnyT_pure (i := 12) (v := ?v12_12_75) rfl (by kernel_rfl) (fun _ _ _ h => h) (Or.inl ⟨by rfl, ?y12_12_75⟩) (fun _ => hS) ?_
                      case y12_12_75 => (intro w hSw; go_simp; try with_reducible rfl)
                      (try simp only [AP]); (refine wpAnyT_ready (rs := [13]) (by kernel_rfl) rfl ?_); (refine AllT.cons rfl (fun K hK => ?_) AllT.nil); go_simp; refine HF74.put HB.out u48 { kind := 11, text := u48.text, kids := [i70] } 97 ((.slice (some ⟨b73, 0, none⟩) 1 1)) [.box 6 b56 59 (TC u53), .box 5 b51 59 (TC u48), .row 4 (.slice A4 l4.length cp4) l4] (.inr List.mem_cons_self) (by simp [Loc.key]) HR.out ?_ ?_
                      · rintro s9 w9 rfl hq9; go_wp2_with fail; exact ⟨rfl, rfl, hq9.sub (by simp)⟩
                      intro i76 s76 w76 hi76 HF77 hr; unfold kidC; clear j5 j6 j7 j8 j9 j0 j1 j2 j3 j4; clear HR; have HR := Lib.hid hr; clear hr; obtain ⟨t78, HT78⟩ := hidE (tokT c s76); (try simp only [NM, reduceIte, HT78.out, bt_n] at HR); obtain ⟨j5, j6, j7, j8, j9⟩ := HF77.b0.t5; obtain ⟨j0, j1, j2, j3, j4⟩ := HF77.b1.t5; go_wp2_with fail; refine hK.out _ _ (fun _ => ?_) (fun hE => ?_)
                      · exact ⟨j5, j6, j7, j8, j9, j0, j1, j2, j3, j4⟩
                      clear hS; (have hS := hE (by kernel_rfl)); clear hK K hE; (try simp only [AP]); (refine wpAnyT_ready (rs := [14]) (by kernel_rfl) rfl ?_); (refine AllT.cons rfl (fun K hK => ?_) AllT.nil); go_simp; refine name_world ?_; intro w79 hw79; have HF80 := HF77.kid1 98 i76 hi76; rw [← hw79] at HF80; obtain ⟨b79, hb79⟩ : ∃ b, w76.heap.size = b := ⟨_, rfl⟩; rw [hb79] at HF80 ⊢; clear hw79 hb79; clear j5 j6 j7 j8 j9 j0 j1 j2 j3 j4; obtain ⟨j5, j6, j7, j8, j9⟩ := HF80.b1.t5; obtain ⟨j0, j1, j2, j3, j4⟩ := HF80.b2.t5; refine hK.out _ _ (fun _ => ?_) (fun hE => ?_)
                      · exact ⟨j5, j6, j7, j8, j9, j0, j1, j2, j3, j4⟩
                      clear hS; (have hS := hE (by kernel_rfl)); clear hK K hE; (try simp only [AP]); (refine wpAnyT_ready (rs := [15]) (by kernel_rfl) rfl ?_); (refine AllT.cons rfl (fun K hK => ?_) AllT.nil); (refine HF80.st_app rfl 4 (List.mem_cons_of_mem _ (List.mem_cons_of_mem _ (List.mem_cons_of_mem _ List.mem_cons_self))) _ _ rfl rfl List.mem_cons_self hi76 rfl (by (try simp only [List.length_append, List.length_nil, List.length_cons]); omega) (L' := [.box 6 b56 59 (TC u53), .box 5 b51 59 (TC u48)]) (by simp [Loc.key]) ?_); intro v81 w81 HF82; obtain ⟨A81, N81, cp81, hv81, hN81⟩ := own_form2 HF82.r0; subst hv81; clear j5 j6 j7 j8 j9 j0 j1 j2 j3 j4; obtain ⟨j5, j6, j7, j8, j9⟩ := HF82.b1.t5; obtain ⟨j0, j1, j2, j3, j4⟩ := HF82.b2.t5; refine hK.out _ _ (fun _ => ?_) (fun hE => ?_)
                      · exact ⟨j5, j6, j7, j8, j9, j0, j1, j2, j3, j4⟩
                      clear hS; (have hS := hE (by kernel_rfl)); clear hK K hE; (try simp only [AP]); (refine wpAnyT_ready (rs := [16]) (by kernel_rfl) rfl ?_); (refine AllT.cons rfl (fun K hK => ?_) AllT.nil); go_simp; refine hK.out _ _ (fun _ => ?_) (fun hE => ?_)
                      · exact ⟨j5, j6, j7, j8, j9, j0, j1, j2, j3, j4⟩
                      clear hS; (have hS := hE (by kernel_rfl)); clear hK K hE; (try simp only [AP]); (refine wpAnyT_done (by kernel_rfl) ?_ _); clear hS; clear j5 j6 j7 j8 j9 j0 j1 j2 j3 j4; go_wp2_with fail; go_roundg m4
                      case measure => omega
                      case rel => exact ⟨s76, (l4 ++ [i76]), HF82.sub (L' := [.row 4 (.slice A81 N81 cp81) (l4 ++ [i76])]) (by simp), by (try simp only [List.length_append, List.length_nil, List.length_cons]); omega, HR.out⟩
                  · (try simp only [NM, reduceIte, bt_n] at HR); (try simp only [NM, reduceIte, HGG4.out, bt_n] at HR); (try simp only [NM, reduceIte, HT7.out, bt_n] at HR); go_wp2_with fail
                    with_reducible refine HF9.bind HN.out HB.out HR.out HO.out ?_ ?_
                    · rintro s9 w9 rfl hq9; go_wp2_with fail; exact ⟨rfl, rfl, hq9.sub (by simp)⟩
                    rintro a83 s83 e w83 ⟨u83, rfl, rfl, hwf83⟩ HF84 hr; clear HR; have HR := Lib.hid hr; clear hr; obtain ⟨t85, HT85⟩ := hidE (tokT c s83); (try simp only [NM, reduceIte, HT85.out, bt_n] at HR); have hr := HR.out; clear HR; subst hr; go_wp2_with fail; go_ret; exact ⟨_, rfl, by omega, Fr.renum (Fr.sub HF84.out (L' := [.row 4 (.slice A4 l4.length cp4) l4]) (by simp))⟩
          · cases q4
            · (have hj : i = j := by have h := HSs.out; simp only [Bool.false_or, Bool.and_false, Bool.false_and, Bool.false_eq_true, if_false] at h; exact Option.some.inj h); subst hj; clear HSs HN9; obtain ⟨q5, hq5⟩ : ∃ q, (u.kind == 4) = q := ⟨_, rfl⟩; obtain ⟨q6, hq6⟩ : ∃ q, (u.text.toList == [61, 62]) = q := ⟨_, rfl⟩; (have n5 : (u.kind != 4) = !q5 := by rw [bne, hq5]); have n6 : (u.text.toList != [61, 62]) = !q6 := by rw [bne, hq6]
              have hcd : (isB u.bt 4 ⟨#[61, 62]⟩ = true) = ((q5 && q6) = true) := by
                unfold isB; rw [isX_eq, show (⟨#[61, 62]⟩ : ByteArray).toList = [61, 62] from by kernel_rfl]
                show ((u.kind == 4 && (u.text.toList == [61, 62])) = true) = _
                rw [hq5, hq6]
              have hr := HR.out; clear HR; rw [HTok.out] at hr; simp only [hcd] at hr; have HR := Lib.hid hr; clear hr hcd; cases q5
              · simp only [NB] at n5 n6; have hr := HR.out; clear HR; simp only [Bool.and_false, Bool.false_and, Bool.false_eq_true, if_false] at hr; subst hr; go_wp2_with fail; go_ret; exact ⟨_, rfl, by simp, HF1.nil 0⟩
              · cases q6
                · simp only [NB] at n5 n6; have hr := HR.out; clear HR; simp only [Bool.and_false, Bool.false_and, Bool.false_eq_true, if_false] at hr; subst hr; go_wp2_with fail; go_ret; exact ⟨_, rfl, by simp, HF1.nil 0⟩
                · simp only [NB] at n5 n6; have hr := HR.out; clear HR; simp only [Bool.and_true, if_true] at hr; unfold predList at hr; have HR := Lib.hid hr; clear hr; obtain ⟨t86, HT86⟩ := hidE (tokT c s0); (try simp only [NM, reduceIte, bt_n] at HR); have fld0 := fldT0; have fld1 := fldT1; have fld2 := fldT2; have HF87 := HF1.nil 4; have hr := HR.out; clear HR; obtain ⟨F88, g88, hFF88, hGG88, hr⟩ := split_loop hr; have HFF88 := Lib.hid hFF88; have HGG88 := Lib.hid hGG88; have HR := Lib.hid hr; clear hr hFF88 hGG88; (have HF89 := HF87.sub (L' := [.row 4 (.slice none 0 0) []]) (by simp)); clear HF87; go_wp2_with fail; go_loopg [4] n (fun gk x4 wr => ∃ (s5 : Ps) (l5 : List Nat), Fr c E 0 [.row 4 x4 l5] s5 wr ∧ l5.length + gk ≤ 1000000 ∧ Hid ((loop F88 gk l5 >>= g88) s5 = r))
                  case atStart => exact ⟨s0, [], HF89.out, by (try simp only [List.length_nil, List.length_cons]); omega, HR.out⟩
                  case round =>
                    obtain ⟨w88, rfl⟩ : ∃ w, w = wr := ⟨_, rfl⟩; clear HR HF89; obtain ⟨s88, l88, HF90, hl88, hr⟩ := hrel; obtain ⟨A88, cp88, hv88, _⟩ := own_formP HF90.r0; subst hv88; obtain _ | m88 := gk
                    · exact absurd (loop_zero hr.out) HO.out
                    have HR := Lib.hid (loop_step hr.out HFF88.out); clear hr; obtain ⟨t91, HT91⟩ := hidE (tokT c s88); (try simp only [NM, reduceIte, HT91.out, bt_n] at HR); obtain ⟨q92, hq92⟩ : ∃ q, isB t91.bt 4 ⟨#[61, 62]⟩ = q := ⟨_, rfl⟩; have HI92 := Lib.hid (HF90.iskey ⟨#[61, 62]⟩); rw [HT91.out, hq92] at HI92; (try simp only [NM, reduceIte, hq92, bt_n] at HR); clear hq92; go_wp2_with fail
                    with_reducible refine HI92.out.mono ?_
                    rintro e w92 ⟨rfl, HF93⟩; cases q92
                    · (try simp only [NM, reduceIte, bt_n] at HR); by_cases h088 : 0 < l88.length
                      · (have hd88 : decide (0 < l88.length) = true := by simpa using h088); (try simp only [NM, reduceIte, h088, bt_n] at HR); go_wp2_with fail
                        with_reducible refine HF93.bind (HWt.out 5 ⟨#[44]⟩) HB.out HR.out HO.out ?_ ?_
                        · rintro s9 w9 rfl hq9; go_wp2_with fail; exact ⟨rfl, rfl, hq9.sub (by simp)⟩
                        rintro a94 s94 e w94 ⟨u94, rfl, rfl, hwf94⟩ HF95 hr; clear HR; have HR := Lib.hid hr; clear hr; obtain ⟨t96, HT96⟩ := hidE (tokT c s94); (try simp only [NM, reduceIte, HT96.out, bt_n] at HR); go_wp2_with fail
                        with_reducible refine HF95.bind (HK.out 1) HB.out HR.out HO.out ?_ ?_
                        · rintro s9 w9 rfl hq9; go_wp2_with fail; exact ⟨rfl, rfl, hq9.sub (by simp)⟩
                        rintro a97 s97 e w97 ⟨u97, rfl, rfl, hwf97⟩ HF98 hr; clear HR; have HR := Lib.hid hr; clear hr; obtain ⟨t99, HT99⟩ := hidE (tokT c s97); (try simp only [NM, reduceIte, HT99.out, bt_n] at HR); go_upto_region 11 with (fail); obtain ⟨b100, w100, hb100, hw100, HF101⟩ := HF98.boxT 5 u97; rw [hw100, hb100]; clear hw100 hb100; obtain ⟨j0, j1, j2, j3, j4⟩ := HF101.b0.t5; go_wp2_with fail
                        with_reducible refine HF101.bind (HK.out 0) HB.out HR.out HO.out ?_ ?_
                        · rintro s9 w9 rfl hq9; go_wp2_with fail; exact ⟨rfl, rfl, hq9.sub (by simp)⟩
                        rintro a102 s102 e w102 ⟨u102, rfl, rfl, hwf102⟩ HF103 hr; clear j0 j1 j2 j3 j4; clear HR; have HR := Lib.hid hr; clear hr; obtain ⟨t104, HT104⟩ := hidE (tokT c s102); (try simp only [NM, reduceIte, HT104.out, bt_n] at HR); obtain ⟨j0, j1, j2, j3, j4⟩ := HF103.b0.t5; go_upto_region 12 with (fail); obtain ⟨b105, w105, hb105, hw105, HF106⟩ := HF103.boxT 6 u102; rw [hw105, hb105]; clear hw105 hb105; clear j0 j1 j2 j3 j4; obtain ⟨j5, j6, j7, j8, j9⟩ := HF106.b0.t5; obtain ⟨j0, j1, j2, j3, j4⟩ := HF106.b1.t5; go_upto_region 12 with (fail); refine wp_region_till [] (fun X => X.cell? ⟨b105, 0, none⟩ = some (.int .i64 u102.kind) ∧ X.cell? ⟨b105, 1, none⟩ = some (.string u102.text) ∧ X.cell? ⟨b105, 2, none⟩ = some (.int .i64 u102.n) ∧ X.cell? ⟨b105, 3, none⟩ = some (.int .i64 u102.line) ∧ X.cell? ⟨b105, 4, none⟩ = some (.int .i64 u102.col) ∧ X.cell? ⟨b100, 0, none⟩ = some (.int .i64 u97.kind) ∧ X.cell? ⟨b100, 1, none⟩ = some (.string u97.text) ∧ X.cell? ⟨b100, 2, none⟩ = some (.int .i64 u97.n) ∧ X.cell? ⟨b100, 3, none⟩ = some (.int .i64 u97.line) ∧ X.cell? ⟨b100, 4, none⟩ = some (.int .i64 u97.col)) (by kernel_rfl) ?_ (fun hE => ?_)
                        · exact ⟨j5, j6, j7, j8, j9, j0, j1, j2, j3, j4⟩
                        (have hS := hE (by kernel_rfl)); obtain ⟨w107, hw107⟩ : ∃ x, World.drew w105 = x := ⟨_, rfl⟩; rw [hw107] at hS ⊢; have HF108 := HF106.drew; rw [hw107] at HF108; clear hE hw107; clear j5 j6 j7 j8 j9 j0 j1 j2 j3 j4; obtain ⟨j5, j6, j7, j8, j9⟩ := HF108.b0.t5; obtain ⟨j0, j1, j2, j3, j4⟩ := HF108.b1.t5; refine wpAnyT_pure (i := 0) (v := ?v12_0_109) rfl (by kernel_rfl) (fun _ _ _ h => h) (Or.inl ⟨by rfl, ?y12_0_109⟩) (fun _ => hS) ?_
                        case y12_0_109 => (intro w hSw; go_simp; try with_reducible rfl)
                        (try simp only [AP]); refine wpAnyT_pure (i := 1) (v := ?v12_1_110) rfl (by kernel_rfl) (fun _ _ _ h => h) (Or.inl ⟨by rfl, ?y12_1_110⟩) (fun _ => hS) ?_
                        case y12_1_110 => (intro w hSw; go_simp; try with_reducible rfl)
                        (try simp only [AP]); refine wpAnyT_take (i := 2) (v := ?v12_2_111) rfl (by kernel_rfl) (fun _ _ _ h => h) (Or.inl ⟨by rfl, ?y12_2_111⟩) hS ?_
                        case y12_2_111 => (intro w hSw; (try dsimp only at hSw); go_simp; try with_reducible rfl)
                        (try simp only [AP]); refine wpAnyT_pure (i := 3) (v := ?v12_3_112) rfl (by kernel_rfl) (fun _ _ _ h => h) (Or.inl ⟨by rfl, ?y12_3_112⟩) (fun _ => hS) ?_
                        case y12_3_112 => (intro w hSw; go_simp; try with_reducible rfl)
                        (try simp only [AP]); refine wpAnyT_take (i := 4) (v := ?v12_4_113) rfl (by kernel_rfl) (fun _ _ _ h => h) (Or.inl ⟨by rfl, ?y12_4_113⟩) hS ?_
                        case y12_4_113 => (intro w hSw; (try dsimp only at hSw); go_simp; try with_reducible rfl)
                        (try simp only [AP]); refine wpAnyT_pure (i := 5) (v := ?v12_5_114) rfl (by kernel_rfl) (fun _ _ _ h => h) (Or.inl ⟨by rfl, ?y12_5_114⟩) (fun _ => hS) ?_
                        case y12_5_114 => (intro w hSw; go_simp; try with_reducible rfl)
                        (try simp only [AP]); refine wpAnyT_take (i := 6) (v := ?v12_6_115) rfl (by kernel_rfl) (fun _ _ _ h => h) (Or.inl ⟨by rfl, ?y12_6_115⟩) hS ?_
                        case y12_6_115 => (intro w hSw; (try dsimp only at hSw); go_simp; try with_reducible rfl)
                        (try simp only [AP]); refine wpAnyT_pure (i := 7) (v := ?v12_7_116) rfl (by kernel_rfl) (fun _ _ _ h => h) (Or.inl ⟨by rfl, ?y12_7_116⟩) (fun _ => hS) ?_
                        case y12_7_116 => (intro w hSw; go_simp; try with_reducible rfl)
                        (try simp only [AP]); refine wpAnyT_take (i := 8) (v := ?v12_8_117) rfl (by kernel_rfl) (fun _ _ _ h => h) (Or.inl ⟨by rfl, ?y12_8_117⟩) hS ?_
                        case y12_8_117 => (intro w hSw; (try dsimp only at hSw); go_simp; try with_reducible rfl)
                        (try simp only [AP]); refine wpAnyT_pure (i := 9) (v := ?v12_9_118) rfl (by kernel_rfl) (fun _ _ _ h => h) (Or.inl ⟨by rfl, ?y12_9_118⟩) (fun _ => hS) ?_
                        case y12_9_118 => (intro w hSw; go_simp; try with_reducible rfl)
                        (try simp only [AP]); (refine wpAnyT_ready (rs := [10]) (by kernel_rfl) rfl ?_); (refine AllT.cons rfl (fun K hK => ?_) AllT.nil); go_simp; refine HF108.put HB.out u102 { kind := 14, text := u102.text } 999 (.slice none 0 0) [.box 6 b105 59 (TC u102), .box 5 b100 59 (TC u97), .row 4 (.slice A88 l88.length cp88) l88] (.inl ⟨rfl, rfl⟩) (by simp [Loc.key]) HR.out ?_ ?_
                        · rintro s9 w9 rfl hq9; go_wp2_with fail; exact ⟨rfl, rfl, hq9.sub (by simp)⟩
                        intro i119 s119 w119 hi119 HF120 hr; unfold kidC; clear j5 j6 j7 j8 j9 j0 j1 j2 j3 j4; clear HR; have HR := Lib.hid hr; clear hr; obtain ⟨t121, HT121⟩ := hidE (tokT c s119); (try simp only [NM, reduceIte, HT121.out, bt_n] at HR); obtain ⟨j5, j6, j7, j8, j9⟩ := HF120.b0.t5; obtain ⟨j0, j1, j2, j3, j4⟩ := HF120.b1.t5; go_wp2_with fail; refine hK.out _ _ (fun _ => ?_) (fun hE => ?_)
                        · exact ⟨j5, j6, j7, j8, j9, j0, j1, j2, j3, j4⟩
                        clear hS; (have hS := hE (by kernel_rfl)); clear hK K hE; (try simp only [AP]); (refine wpAnyT_ready (rs := [11]) (by kernel_rfl) rfl ?_); (refine AllT.cons rfl (fun K hK => ?_) AllT.nil); go_simp; refine name_world ?_; intro w122 hw122; have HF123 := HF120.kid1 97 i119 hi119; rw [← hw122] at HF123; obtain ⟨b122, hb122⟩ : ∃ b, w119.heap.size = b := ⟨_, rfl⟩; rw [hb122] at HF123 ⊢; clear hw122 hb122; clear j5 j6 j7 j8 j9 j0 j1 j2 j3 j4; obtain ⟨j5, j6, j7, j8, j9⟩ := HF123.b1.t5; obtain ⟨j0, j1, j2, j3, j4⟩ := HF123.b2.t5; refine hK.out _ _ (fun _ => ?_) (fun hE => ?_)
                        · exact ⟨j5, j6, j7, j8, j9, j0, j1, j2, j3, j4⟩
                        clear hS; (have hS := hE (by kernel_rfl)); clear hK K hE; (try simp only [AP]); refine wpAnyT_pure (i := 12) (v := ?v12_12_124) rfl (by kernel_rfl) (fun _ _ _ h => h) (Or.inl ⟨by rfl, ?y12_12_124⟩) (fun _ => hS) ?_
                        case y12_12_124 => (intro w hSw; go_simp; try with_reducible rfl)
                        (try simp only [AP]); (refine wpAnyT_ready (rs := [13]) (by kernel_rfl) rfl ?_); (refine AllT.cons rfl (fun K hK => ?_) AllT.nil); go_simp; refine HF123.put HB.out u97 { kind := 11, text := u97.text, kids := [i119] } 97 ((.slice (some ⟨b122, 0, none⟩) 1 1)) [.box 6 b105 59 (TC u102), .box 5 b100 59 (TC u97), .row 4 (.slice A88 l88.length cp88) l88] (.inr List.mem_cons_self) (by simp [Loc.key]) HR.out ?_ ?_
                        · rintro s9 w9 rfl hq9; go_wp2_with fail; exact ⟨rfl, rfl, hq9.sub (by simp)⟩
                        intro i125 s125 w125 hi125 HF126 hr; unfold kidC; clear j5 j6 j7 j8 j9 j0 j1 j2 j3 j4; clear HR; have HR := Lib.hid hr; clear hr; obtain ⟨t127, HT127⟩ := hidE (tokT c s125); (try simp only [NM, reduceIte, HT127.out, bt_n] at HR); obtain ⟨j5, j6, j7, j8, j9⟩ := HF126.b0.t5; obtain ⟨j0, j1, j2, j3, j4⟩ := HF126.b1.t5; go_wp2_with fail; refine hK.out _ _ (fun _ => ?_) (fun hE => ?_)
                        · exact ⟨j5, j6, j7, j8, j9, j0, j1, j2, j3, j4⟩
                        clear hS; (have hS := hE (by kernel_rfl)); clear hK K hE; (try simp only [AP]); (refine wpAnyT_ready (rs := [14]) (by kernel_rfl) rfl ?_); (refine AllT.cons rfl (fun K hK => ?_) AllT.nil); go_simp; refine name_world ?_; intro w128 hw128; have HF129 := HF126.kid1 98 i125 hi125; rw [← hw128] at HF129; obtain ⟨b128, hb128⟩ : ∃ b, w125.heap.size = b := ⟨_, rfl⟩; rw [hb128] at HF129 ⊢; clear hw128 hb128; clear j5 j6 j7 j8 j9 j0 j1 j2 j3 j4; obtain ⟨j5, j6, j7, j8, j9⟩ := HF129.b1.t5; obtain ⟨j0, j1, j2, j3, j4⟩ := HF129.b2.t5; refine hK.out _ _ (fun _ => ?_) (fun hE => ?_)
                        · exact ⟨j5, j6, j7, j8, j9, j0, j1, j2, j3, j4⟩
                        clear hS; (have hS := hE (by kernel_rfl)); clear hK K hE; (try simp only [AP]); (refine wpAnyT_ready (rs := [15]) (by kernel_rfl) rfl ?_); (refine AllT.cons rfl (fun K hK => ?_) AllT.nil); (refine HF129.st_app rfl 4 (List.mem_cons_of_mem _ (List.mem_cons_of_mem _ (List.mem_cons_of_mem _ List.mem_cons_self))) _ _ rfl rfl List.mem_cons_self hi125 rfl (by (try simp only [List.length_append, List.length_nil, List.length_cons]); omega) (L' := [.box 6 b105 59 (TC u102), .box 5 b100 59 (TC u97)]) (by simp [Loc.key]) ?_); intro v130 w130 HF131; obtain ⟨A130, N130, cp130, hv130, hN130⟩ := own_form2 HF131.r0; subst hv130; clear j5 j6 j7 j8 j9 j0 j1 j2 j3 j4; obtain ⟨j5, j6, j7, j8, j9⟩ := HF131.b1.t5; obtain ⟨j0, j1, j2, j3, j4⟩ := HF131.b2.t5; refine hK.out _ _ (fun _ => ?_) (fun hE => ?_)
                        · exact ⟨j5, j6, j7, j8, j9, j0, j1, j2, j3, j4⟩
                        clear hS; (have hS := hE (by kernel_rfl)); clear hK K hE; (try simp only [AP]); (refine wpAnyT_ready (rs := [16]) (by kernel_rfl) rfl ?_); (refine AllT.cons rfl (fun K hK => ?_) AllT.nil); go_simp; refine hK.out _ _ (fun _ => ?_) (fun hE => ?_)
                        · exact ⟨j5, j6, j7, j8, j9, j0, j1, j2, j3, j4⟩
                        clear hS; (have hS := hE (by kernel_rfl)); clear hK K hE; (try simp only [AP]); (refine wpAnyT_done (by kernel_rfl) ?_ _); clear hS; clear j5 j6 j7 j8 j9 j0 j1 j2 j3 j4; go_wp2_with fail; go_roundg m88
                        case measure => omega
                        case rel => exact ⟨s125, (l88 ++ [i125]), HF131.sub (L' := [.row 4 (.slice A130 N130 cp130) (l88 ++ [i125])]) (by simp), by (try simp only [List.length_append, List.length_nil, List.length_cons]); omega, HR.out⟩
                      · (have hd88 : decide (0 < l88.length) = false := by simpa using h088); (try simp only [NM, reduceIte, h088, bt_n] at HR); go_wp2_with fail
                        with_reducible refine HF93.bind (HK.out 1) HB.out HR.out HO.out ?_ ?_
                        · rintro s9 w9 rfl hq9; go_wp2_with fail; exact ⟨rfl, rfl, hq9.sub (by simp)⟩
                        rintro a132 s132 e w132 ⟨u132, rfl, rfl, hwf132⟩ HF133 hr; clear HR; have HR := Lib.hid hr; clear hr; obtain ⟨t134, HT134⟩ := hidE (tokT c s132); (try simp only [NM, reduceIte, HT134.out, bt_n] at HR); go_upto_region 11 with (fail); obtain ⟨b135, w135, hb135, hw135, HF136⟩ := HF133.boxT 5 u132; rw [hw135, hb135]; clear hw135 hb135; obtain ⟨j0, j1, j2, j3, j4⟩ := HF136.b0.t5; go_wp2_with fail
                        with_reducible refine HF136.bind (HK.out 0) HB.out HR.out HO.out ?_ ?_
                        · rintro s9 w9 rfl hq9; go_wp2_with fail; exact ⟨rfl, rfl, hq9.sub (by simp)⟩
                        rintro a137 s137 e w137 ⟨u137, rfl, rfl, hwf137⟩ HF138 hr; clear j0 j1 j2 j3 j4; clear HR; have HR := Lib.hid hr; clear hr; obtain ⟨t139, HT139⟩ := hidE (tokT c s137); (try simp only [NM, reduceIte, HT139.out, bt_n] at HR); obtain ⟨j0, j1, j2, j3, j4⟩ := HF138.b0.t5; go_upto_region 12 with (fail); obtain ⟨b140, w140, hb140, hw140, HF141⟩ := HF138.boxT 6 u137; rw [hw140, hb140]; clear hw140 hb140; clear j0 j1 j2 j3 j4; obtain ⟨j5, j6, j7, j8, j9⟩ := HF141.b0.t5; obtain ⟨j0, j1, j2, j3, j4⟩ := HF141.b1.t5; go_upto_region 12 with (fail); refine wp_region_till [] (fun X => X.cell? ⟨b140, 0, none⟩ = some (.int .i64 u137.kind) ∧ X.cell? ⟨b140, 1, none⟩ = some (.string u137.text) ∧ X.cell? ⟨b140, 2, none⟩ = some (.int .i64 u137.n) ∧ X.cell? ⟨b140, 3, none⟩ = some (.int .i64 u137.line) ∧ X.cell? ⟨b140, 4, none⟩ = some (.int .i64 u137.col) ∧ X.cell? ⟨b135, 0, none⟩ = some (.int .i64 u132.kind) ∧ X.cell? ⟨b135, 1, none⟩ = some (.string u132.text) ∧ X.cell? ⟨b135, 2, none⟩ = some (.int .i64 u132.n) ∧ X.cell? ⟨b135, 3, none⟩ = some (.int .i64 u132.line) ∧ X.cell? ⟨b135, 4, none⟩ = some (.int .i64 u132.col)) (by kernel_rfl) ?_ (fun hE => ?_)
                        · exact ⟨j5, j6, j7, j8, j9, j0, j1, j2, j3, j4⟩
                        (have hS := hE (by kernel_rfl)); obtain ⟨w142, hw142⟩ : ∃ x, World.drew w140 = x := ⟨_, rfl⟩; rw [hw142] at hS ⊢; have HF143 := HF141.drew; rw [hw142] at HF143; clear hE hw142; clear j5 j6 j7 j8 j9 j0 j1 j2 j3 j4; obtain ⟨j5, j6, j7, j8, j9⟩ := HF143.b0.t5; obtain ⟨j0, j1, j2, j3, j4⟩ := HF143.b1.t5; refine wpAnyT_pure (i := 0) (v := ?v12_0_144) rfl (by kernel_rfl) (fun _ _ _ h => h) (Or.inl ⟨by rfl, ?y12_0_144⟩) (fun _ => hS) ?_
                        case y12_0_144 => (intro w hSw; go_simp; try with_reducible rfl)
                        (try simp only [AP]); refine wpAnyT_pure (i := 1) (v := ?v12_1_145) rfl (by kernel_rfl) (fun _ _ _ h => h) (Or.inl ⟨by rfl, ?y12_1_145⟩) (fun _ => hS) ?_
                        case y12_1_145 => (intro w hSw; go_simp; try with_reducible rfl)
                        (try simp only [AP]); refine wpAnyT_take (i := 2) (v := ?v12_2_146) rfl (by kernel_rfl) (fun _ _ _ h => h) (Or.inl ⟨by rfl, ?y12_2_146⟩) hS ?_
                        case y12_2_146 => (intro w hSw; (try dsimp only at hSw); go_simp; try with_reducible rfl)
                        (try simp only [AP]); refine wpAnyT_pure (i := 3) (v := ?v12_3_147) rfl (by kernel_rfl) (fun _ _ _ h => h) (Or.inl ⟨by rfl, ?y12_3_147⟩) (fun _ => hS) ?_
                        case y12_3_147 => (intro w hSw; go_simp; try with_reducible rfl)
                        (try simp only [AP]); refine wpAnyT_take (i := 4) (v := ?v12_4_148) rfl (by kernel_rfl) (fun _ _ _ h => h) (Or.inl ⟨by rfl, ?y12_4_148⟩) hS ?_
                        case y12_4_148 => (intro w hSw; (try dsimp only at hSw); go_simp; try with_reducible rfl)
                        (try simp only [AP]); refine wpAnyT_pure (i := 5) (v := ?v12_5_149) rfl (by kernel_rfl) (fun _ _ _ h => h) (Or.inl ⟨by rfl, ?y12_5_149⟩) (fun _ => hS) ?_
                        case y12_5_149 => (intro w hSw; go_simp; try with_reducible rfl)
                        (try simp only [AP]); refine wpAnyT_take (i := 6) (v := ?v12_6_150) rfl (by kernel_rfl) (fun _ _ _ h => h) (Or.inl ⟨by rfl, ?y12_6_150⟩) hS ?_
                        case y12_6_150 => (intro w hSw; (try dsimp only at hSw); go_simp; try with_reducible rfl)
                        (try simp only [AP]); refine wpAnyT_pure (i := 7) (v := ?v12_7_151) rfl (by kernel_rfl) (fun _ _ _ h => h) (Or.inl ⟨by rfl, ?y12_7_151⟩) (fun _ => hS) ?_
                        case y12_7_151 => (intro w hSw; go_simp; try with_reducible rfl)
                        (try simp only [AP]); refine wpAnyT_take (i := 8) (v := ?v12_8_152) rfl (by kernel_rfl) (fun _ _ _ h => h) (Or.inl ⟨by rfl, ?y12_8_152⟩) hS ?_
                        case y12_8_152 => (intro w hSw; (try dsimp only at hSw); go_simp; try with_reducible rfl)
                        (try simp only [AP]); refine wpAnyT_pure (i := 9) (v := ?v12_9_153) rfl (by kernel_rfl) (fun _ _ _ h => h) (Or.inl ⟨by rfl, ?y12_9_153⟩) (fun _ => hS) ?_
                        case y12_9_153 => (intro w hSw; go_simp; try with_reducible rfl)
                        (try simp only [AP]); (refine wpAnyT_ready (rs := [10]) (by kernel_rfl) rfl ?_); (refine AllT.cons rfl (fun K hK => ?_) AllT.nil); go_simp; refine HF143.put HB.out u137 { kind := 14, text := u137.text } 999 (.slice none 0 0) [.box 6 b140 59 (TC u137), .box 5 b135 59 (TC u132), .row 4 (.slice A88 l88.length cp88) l88] (.inl ⟨rfl, rfl⟩) (by simp [Loc.key]) HR.out ?_ ?_
                        · rintro s9 w9 rfl hq9; go_wp2_with fail; exact ⟨rfl, rfl, hq9.sub (by simp)⟩
                        intro i154 s154 w154 hi154 HF155 hr; unfold kidC; clear j5 j6 j7 j8 j9 j0 j1 j2 j3 j4; clear HR; have HR := Lib.hid hr; clear hr; obtain ⟨t156, HT156⟩ := hidE (tokT c s154); (try simp only [NM, reduceIte, HT156.out, bt_n] at HR); obtain ⟨j5, j6, j7, j8, j9⟩ := HF155.b0.t5; obtain ⟨j0, j1, j2, j3, j4⟩ := HF155.b1.t5; go_wp2_with fail; refine hK.out _ _ (fun _ => ?_) (fun hE => ?_)
                        · exact ⟨j5, j6, j7, j8, j9, j0, j1, j2, j3, j4⟩
                        clear hS; (have hS := hE (by kernel_rfl)); clear hK K hE; (try simp only [AP]); (refine wpAnyT_ready (rs := [11]) (by kernel_rfl) rfl ?_); (refine AllT.cons rfl (fun K hK => ?_) AllT.nil); go_simp; refine name_world ?_; intro w157 hw157; have HF158 := HF155.kid1 97 i154 hi154; rw [← hw157] at HF158; obtain ⟨b157, hb157⟩ : ∃ b, w154.heap.size = b := ⟨_, rfl⟩; rw [hb157] at HF158 ⊢; clear hw157 hb157; clear j5 j6 j7 j8 j9 j0 j1 j2 j3 j4; obtain ⟨j5, j6, j7, j8, j9⟩ := HF158.b1.t5; obtain ⟨j0, j1, j2, j3, j4⟩ := HF158.b2.t5; refine hK.out _ _ (fun _ => ?_) (fun hE => ?_)
                        · exact ⟨j5, j6, j7, j8, j9, j0, j1, j2, j3, j4⟩
                        clear hS; (have hS := hE (by kernel_rfl)); clear hK K hE; (try simp only [AP]); refine wpAnyT_pure (i := 12) (v := ?v12_12_159) rfl (by kernel_rfl) (fun _ _ _ h => h) (Or.inl ⟨by rfl, ?y12_12_159⟩) (fun _ => hS) ?_
                        case y12_12_159 => (intro w hSw; go_simp; try with_reducible rfl)
                        (try simp only [AP]); (refine wpAnyT_ready (rs := [13]) (by kernel_rfl) rfl ?_); (refine AllT.cons rfl (fun K hK => ?_) AllT.nil); go_simp; refine HF158.put HB.out u132 { kind := 11, text := u132.text, kids := [i154] } 97 ((.slice (some ⟨b157, 0, none⟩) 1 1)) [.box 6 b140 59 (TC u137), .box 5 b135 59 (TC u132), .row 4 (.slice A88 l88.length cp88) l88] (.inr List.mem_cons_self) (by simp [Loc.key]) HR.out ?_ ?_
                        · rintro s9 w9 rfl hq9; go_wp2_with fail; exact ⟨rfl, rfl, hq9.sub (by simp)⟩
                        intro i160 s160 w160 hi160 HF161 hr; unfold kidC; clear j5 j6 j7 j8 j9 j0 j1 j2 j3 j4; clear HR; have HR := Lib.hid hr; clear hr; obtain ⟨t162, HT162⟩ := hidE (tokT c s160); (try simp only [NM, reduceIte, HT162.out, bt_n] at HR); obtain ⟨j5, j6, j7, j8, j9⟩ := HF161.b0.t5; obtain ⟨j0, j1, j2, j3, j4⟩ := HF161.b1.t5; go_wp2_with fail; refine hK.out _ _ (fun _ => ?_) (fun hE => ?_)
                        · exact ⟨j5, j6, j7, j8, j9, j0, j1, j2, j3, j4⟩
                        clear hS; (have hS := hE (by kernel_rfl)); clear hK K hE; (try simp only [AP]); (refine wpAnyT_ready (rs := [14]) (by kernel_rfl) rfl ?_); (refine AllT.cons rfl (fun K hK => ?_) AllT.nil); go_simp; refine name_world ?_; intro w163 hw163; have HF164 := HF161.kid1 98 i160 hi160; rw [← hw163] at HF164; obtain ⟨b163, hb163⟩ : ∃ b, w160.heap.size = b := ⟨_, rfl⟩; rw [hb163] at HF164 ⊢; clear hw163 hb163; clear j5 j6 j7 j8 j9 j0 j1 j2 j3 j4; obtain ⟨j5, j6, j7, j8, j9⟩ := HF164.b1.t5; obtain ⟨j0, j1, j2, j3, j4⟩ := HF164.b2.t5; refine hK.out _ _ (fun _ => ?_) (fun hE => ?_)
                        · exact ⟨j5, j6, j7, j8, j9, j0, j1, j2, j3, j4⟩
                        clear hS; (have hS := hE (by kernel_rfl)); clear hK K hE; (try simp only [AP]); (refine wpAnyT_ready (rs := [15]) (by kernel_rfl) rfl ?_); (refine AllT.cons rfl (fun K hK => ?_) AllT.nil); (refine HF164.st_app rfl 4 (List.mem_cons_of_mem _ (List.mem_cons_of_mem _ (List.mem_cons_of_mem _ List.mem_cons_self))) _ _ rfl rfl List.mem_cons_self hi160 rfl (by (try simp only [List.length_append, List.length_nil, List.length_cons]); omega) (L' := [.box 6 b140 59 (TC u137), .box 5 b135 59 (TC u132)]) (by simp [Loc.key]) ?_); intro v165 w165 HF166; obtain ⟨A165, N165, cp165, hv165, hN165⟩ := own_form2 HF166.r0; subst hv165; clear j5 j6 j7 j8 j9 j0 j1 j2 j3 j4; obtain ⟨j5, j6, j7, j8, j9⟩ := HF166.b1.t5; obtain ⟨j0, j1, j2, j3, j4⟩ := HF166.b2.t5; refine hK.out _ _ (fun _ => ?_) (fun hE => ?_)
                        · exact ⟨j5, j6, j7, j8, j9, j0, j1, j2, j3, j4⟩
                        clear hS; (have hS := hE (by kernel_rfl)); clear hK K hE; (try simp only [AP]); (refine wpAnyT_ready (rs := [16]) (by kernel_rfl) rfl ?_); (refine AllT.cons rfl (fun K hK => ?_) AllT.nil); go_simp; refine hK.out _ _ (fun _ => ?_) (fun hE => ?_)
                        · exact ⟨j5, j6, j7, j8, j9, j0, j1, j2, j3, j4⟩
                        clear hS; (have hS := hE (by kernel_rfl)); clear hK K hE; (try simp only [AP]); (refine wpAnyT_done (by kernel_rfl) ?_ _); clear hS; clear j5 j6 j7 j8 j9 j0 j1 j2 j3 j4; go_wp2_with fail; go_roundg m88
                        case measure => omega
                        case rel => exact ⟨s160, (l88 ++ [i160]), HF166.sub (L' := [.row 4 (.slice A165 N165 cp165) (l88 ++ [i160])]) (by simp), by (try simp only [List.length_append, List.length_nil, List.length_cons]); omega, HR.out⟩
                    · (try simp only [NM, reduceIte, bt_n] at HR); (try simp only [NM, reduceIte, HGG88.out, bt_n] at HR); (try simp only [NM, reduceIte, HT91.out, bt_n] at HR); go_wp2_with fail
                      with_reducible refine HF93.bind HN.out HB.out HR.out HO.out ?_ ?_
                      · rintro s9 w9 rfl hq9; go_wp2_with fail; exact ⟨rfl, rfl, hq9.sub (by simp)⟩
                      rintro a167 s167 e w167 ⟨u167, rfl, rfl, hwf167⟩ HF168 hr; clear HR; have HR := Lib.hid hr; clear hr; obtain ⟨t169, HT169⟩ := hidE (tokT c s167); (try simp only [NM, reduceIte, HT169.out, bt_n] at HR); have hr := HR.out; clear HR; subst hr; go_wp2_with fail; go_ret; exact ⟨_, rfl, by omega, Fr.renum (Fr.sub HF168.out (L' := [.row 4 (.slice A88 l88.length cp88) l88]) (by simp))⟩
            · have hsc := Lib.hid (show scanAt (c.l.map Tok.bt) m2 (i + 1) = some j from HSs.out); have h9 := Lib.hid (HN9.out rfl); clear HSs HN9; go_wp2_with fail; go_roundg m2
              case measure => omega
              case rel => exact ⟨i + 1, by go_num, h9.out, rfl, hsc⟩
        · have hsc := Lib.hid (show scanAt (c.l.map Tok.bt) m2 (i + 1) = some j from HSs.out); have h9 := Lib.hid (HN9.out rfl); clear HSs HN9; go_wp2_with fail; go_roundg m2
          case measure => omega
          case rel => exact ⟨i + 1, by go_num, h9.out, rfl, hsc⟩
      · have hsc := Lib.hid (show scanAt (c.l.map Tok.bt) m2 (i + 1) = some j from HSs.out); have h9 := Lib.hid (HN9.out rfl); clear HSs HN9; go_wp2_with fail; go_roundg m2
        case measure => omega
        case rel => exact ⟨i + 1, by go_num, h9.out, rfl, hsc⟩
theorem sigOf_any (hS : TokSt c.l) (n : Nat) (hn : n ≤ 1000000) (t : Tok) (name : ByteArray) : Meth c 141 #[.pointer (some ⟨c.bp, 0, none⟩), .agg #[.int .i64 t.kind, .string t.text, .int .i64 t.n, .int .i64 t.line, .int .i64 t.col], .string name] (sigOf (c.l.map Tok.bt) n name) vNum := by
  (refine Meth.mk fun E s0 r W HF1 hb hr ho => ?_); have HN := Lib.hid (next_any hS); (have HK := Lib.hid (fun k => kind_any hS k)); (have HWt := Lib.hid (fun k x => want_any hS k x)); have HPr := Lib.hid (preds_any hS n hn); have HTy := Lib.hid (types_any hS n hn).1; have HB := Lib.hid hb; have HO := Lib.hid ho; clear hb ho; have HR := Lib.hid hr; clear hr; obtain ⟨t2, HT2⟩ := hidE (tokT c s0); have hr := HR.out; clear HR; unfold sigOf at hr; have HR := Lib.hid hr; clear hr; (try simp only [NM, reduceIte, HT2.out, bt_n] at HR); have fld0 := fldT0; have fld1 := fldT1; have fld2 := fldT2; go_enter Tryz.func141, Tryz.ntmps141; go_upto_region 1 with (fail); obtain ⟨b3, w3, hb3, hw3, HF4⟩ := HF1.boxT 3 t; rw [hw3, hb3]; clear hw3 hb3; obtain ⟨j0, j1, j2, j3, j4⟩ := HF4.b0.t5; go_wp2_with fail
  with_reducible refine HF4.bind (HWt.out 4 ⟨#[58]⟩) HB.out HR.out HO.out ?_ ?_
  · rintro s9 w9 rfl hq9; go_wp2_with fail; exact ⟨rfl, rfl, hq9.sub (by simp)⟩
  rintro a5 s5 e w5 ⟨u5, rfl, rfl, hwf5⟩ HF6 hr; clear j0 j1 j2 j3 j4; clear HR; have HR := Lib.hid hr; clear hr; obtain ⟨t7, HT7⟩ := hidE (tokT c s5); (try simp only [NM, reduceIte, HT7.out, bt_n] at HR); obtain ⟨j0, j1, j2, j3, j4⟩ := HF6.b0.t5; go_wp2_with fail
  with_reducible refine HF6.bindR 7 HPr.out HB.out HR.out HO.out ?_ ?_
  · rintro s9 w9 rfl hq9; go_wp2_with fail; exact ⟨rfl, rfl, hq9.sub (by simp)⟩
  intro l8 s8 v8 w8 hl8 HF9 hr; obtain ⟨A8, N8, cp8, hv8, hN8⟩ := own_form2 HF9.r0; subst hv8; clear j0 j1 j2 j3 j4; clear HR; have HR := Lib.hid hr; clear hr; obtain ⟨t10, HT10⟩ := hidE (tokT c s8); (try simp only [NM, reduceIte, HT10.out, bt_n] at HR); obtain ⟨j0, j1, j2, j3, j4⟩ := HF9.b1.t5; go_upto_region 3 with (fail); refine wp_region_till [] (fun X => X.cell? ⟨b3, 0, none⟩ = some (.int .i64 t.kind) ∧ X.cell? ⟨b3, 1, none⟩ = some (.string t.text) ∧ X.cell? ⟨b3, 2, none⟩ = some (.int .i64 t.n) ∧ X.cell? ⟨b3, 3, none⟩ = some (.int .i64 t.line) ∧ X.cell? ⟨b3, 4, none⟩ = some (.int .i64 t.col)) (by kernel_rfl) ?_ (fun hE => ?_)
  · exact ⟨j0, j1, j2, j3, j4⟩
  (have hS := hE (by kernel_rfl)); obtain ⟨w11, hw11⟩ : ∃ x, World.drew w8 = x := ⟨_, rfl⟩; rw [hw11] at hS ⊢; have HF12 := HF9.drew; rw [hw11] at HF12; clear hE hw11; clear j0 j1 j2 j3 j4; obtain ⟨j0, j1, j2, j3, j4⟩ := HF12.b1.t5; refine wpAnyT_pure (i := 0) (v := ?v3_0_13) rfl (by kernel_rfl) (fun _ _ _ h => h) (Or.inl ⟨by rfl, ?y3_0_13⟩) (fun _ => hS) ?_
  case y3_0_13 => (intro w hSw; go_simp; try with_reducible rfl)
  (try simp only [AP]); refine wpAnyT_take (i := 1) (v := ?v3_1_14) rfl (by kernel_rfl) (fun _ _ _ h => h) (Or.inl ⟨by rfl, ?y3_1_14⟩) hS ?_
  case y3_1_14 => (intro w hSw; (try dsimp only at hSw); go_simp; try with_reducible rfl)
  (try simp only [AP]); refine wpAnyT_pure (i := 2) (v := ?v3_2_15) rfl (by kernel_rfl) (fun _ _ _ h => h) (Or.inl ⟨by rfl, ?y3_2_15⟩) (fun _ => hS) ?_
  case y3_2_15 => (intro w hSw; go_simp; try with_reducible rfl)
  (try simp only [AP]); refine wpAnyT_pure (i := 3) (v := ?v3_3_16) rfl (by kernel_rfl) (fun _ _ _ h => h) (Or.inl ⟨by rfl, ?y3_3_16⟩) (fun _ => hS) ?_
  case y3_3_16 => (intro w hSw; go_simp; try with_reducible rfl)
  (try simp only [AP]); refine wpAnyT_pure (i := 4) (v := ?v3_4_17) rfl (by kernel_rfl) (fun _ _ _ h => h) (Or.inl ⟨by rfl, ?y3_4_17⟩) (fun _ => hS) ?_
  case y3_4_17 => (intro w hSw; go_simp; try with_reducible rfl)
  (try simp only [AP]); (refine wpAnyT_ready (rs := [5]) (by kernel_rfl) rfl ?_); (refine AllT.cons rfl (fun K hK => ?_) AllT.nil); go_simp
  with_reducible refine HF12.bind HTy.out HB.out HR.out HO.out ?_ ?_
  · rintro s9 w9 rfl hq9; go_wp2_with fail; exact ⟨rfl, rfl, hq9.sub (by simp)⟩
  rintro a18 s18 e w18 ⟨rfl, hi18⟩ HF19 hr; unfold kidC; clear j0 j1 j2 j3 j4; clear HR; have HR := Lib.hid hr; clear hr; obtain ⟨t20, HT20⟩ := hidE (tokT c s18); (try simp only [NM, reduceIte, HT20.out, bt_n] at HR); obtain ⟨j0, j1, j2, j3, j4⟩ := HF19.b1.t5; go_wp2_with fail; refine hK.out _ _ (fun _ => ?_) (fun hE => ?_)
  · exact ⟨j0, j1, j2, j3, j4⟩
  clear hS; (have hS := hE (by kernel_rfl)); clear hK K hE; (try simp only [AP]); (refine wpAnyT_ready (rs := [6]) (by kernel_rfl) rfl ?_); (refine AllT.cons rfl (fun K hK => ?_) AllT.nil); go_simp; refine name_world ?_; intro w21 hw21; have HF22 := HF19.kid1 98 a18 hi18; rw [← hw21] at HF22; obtain ⟨b21, hb21⟩ : ∃ b, w18.heap.size = b := ⟨_, rfl⟩; rw [hb21] at HF22 ⊢; clear hw21 hb21; clear j0 j1 j2 j3 j4; obtain ⟨j0, j1, j2, j3, j4⟩ := HF22.b2.t5; refine hK.out _ _ (fun _ => ?_) (fun hE => ?_)
  · exact ⟨j0, j1, j2, j3, j4⟩
  clear hS; (have hS := hE (by kernel_rfl)); clear hK K hE; (try simp only [AP]); (refine wpAnyT_ready (rs := [7]) (by kernel_rfl) rfl ?_); (refine AllT.cons rfl (fun K hK => ?_) AllT.nil); (refine HF22.st_app rfl 7 (List.mem_cons_of_mem _ List.mem_cons_self) _ _ rfl rfl List.mem_cons_self hi18 rfl (by (try simp only [List.length_append, List.length_nil, List.length_cons]); omega) (L' := [.box 3 b3 59 (TC t)]) (by simp [Loc.key]) ?_); intro v23 w23 HF24; obtain ⟨A23, N23, cp23, hv23, hN23⟩ := own_form2 HF24.r0; subst hv23; clear j0 j1 j2 j3 j4; obtain ⟨j0, j1, j2, j3, j4⟩ := HF24.b1.t5; refine hK.out _ _ (fun _ => ?_) (fun hE => ?_)
  · exact ⟨j0, j1, j2, j3, j4⟩
  clear hS; (have hS := hE (by kernel_rfl)); clear hK K hE; (try simp only [AP]); refine wpAnyT_pure (i := 8) (v := ?v3_8_25) rfl (by kernel_rfl) (fun _ _ _ h => h) (Or.inl ⟨by rfl, ?y3_8_25⟩) (fun _ => hS) ?_
  case y3_8_25 => (intro w hSw; go_simp; try with_reducible rfl)
  (try simp only [AP]); (refine wpAnyT_ready (rs := [9]) (by kernel_rfl) rfl ?_); (refine AllT.cons rfl (fun K hK => ?_) AllT.nil); go_simp; refine HF24.putT HB.out t { kind := 12, text := name, kids := (l8 ++ [a18]) } 7 ((.slice A23 N23 cp23)) [.box 3 b3 59 (TC t)] (.inr List.mem_cons_self) (by simp [Loc.key]) HR.out ?_ ?_
  · rintro s9 w9 rfl hq9; go_wp2_with fail; exact ⟨rfl, rfl, hq9.sub (by simp)⟩
  intro i26 s26 w26 hi26 HF27 hr; unfold kidC; clear j0 j1 j2 j3 j4; clear HR; have HR := Lib.hid hr; clear hr; obtain ⟨j0, j1, j2, j3, j4⟩ := HF27.b0.t5; go_wp2_with fail; refine hK.out _ _ (fun _ => ?_) (fun hE => ?_)
  · exact ⟨j0, j1, j2, j3, j4⟩
  clear hS; (have hS := hE (by kernel_rfl)); clear hK K hE; (try simp only [AP]); (refine wpAnyT_ready (rs := [10]) (by kernel_rfl) rfl ?_); (refine AllT.cons rfl (fun K hK => ?_) AllT.nil); go_simp; refine hK.out _ _ (fun _ => ?_) (fun hE => ?_)
  · exact ⟨j0, j1, j2, j3, j4⟩
  clear hS; (have hS := hE (by kernel_rfl)); clear hK K hE; (try simp only [AP]); (refine wpAnyT_done (by kernel_rfl) ?_ _); clear hS; have hr := HR.out; clear HR; subst hr; go_wp2_with fail; go_ret; exact ⟨⟨rfl, hi26⟩, HF27.sub (by simp)⟩
theorem opSig_any (hS : TokSt c.l) (n : Nat) (hn : n ≤ 1000000) : Meth c 125 #[.pointer (some ⟨c.bp, 0, none⟩)] (opSig (c.l.map Tok.bt) n) vNum := by
  (refine Meth.mk fun E s0 r W HF1 hb hr ho => ?_); have HN := Lib.hid (next_any hS); (have HK := Lib.hid (fun k => kind_any hS k)); (have HWt := Lib.hid (fun k x => want_any hS k x)); have HBt := Lib.hid (types_any hS n hn).2.1; have HB := Lib.hid hb; have HO := Lib.hid ho; clear hb ho; have HR := Lib.hid hr; clear hr; obtain ⟨t2, HT2⟩ := hidE (tokT c s0); have hr := HR.out; clear HR; unfold opSig at hr; have HR := Lib.hid hr; clear hr; (try simp only [NM, reduceIte, HT2.out, bt_n] at HR); have fld0 := fldT0; have fld1 := fldT1; have fld2 := fldT2; go_enter Tryz.func125, Tryz.ntmps125; go_wp2_with fail
  with_reducible refine (HF1.tok).mono ?_
  rintro e w3 ⟨rfl, HF4⟩; rw [HT2.out]; go_upto_region 2 with (fail); obtain ⟨b5, w5, hb5, hw5, HF6⟩ := HF4.boxT 3 t2; rw [hw5, hb5]; clear hw5 hb5; obtain ⟨j0, j1, j2, j3, j4⟩ := HF6.b0.t5; go_wp2_with fail
  with_reducible refine HF6.bind (HK.out 0) HB.out HR.out HO.out ?_ ?_
  · rintro s9 w9 rfl hq9; go_wp2_with fail; exact ⟨rfl, rfl, hq9.sub (by simp)⟩
  rintro a7 s7 e w7 ⟨u7, rfl, rfl, hwf7⟩ HF8 hr; clear j0 j1 j2 j3 j4; clear HR; have HR := Lib.hid hr; clear hr; obtain ⟨t9, HT9⟩ := hidE (tokT c s7); (try simp only [NM, reduceIte, HT9.out, bt_n] at HR); obtain ⟨j0, j1, j2, j3, j4⟩ := HF8.b0.t5; go_wp2_with fail
  with_reducible refine HF8.bind (HWt.out 4 ⟨#[58]⟩) HB.out HR.out HO.out ?_ ?_
  · rintro s9 w9 rfl hq9; go_wp2_with fail; exact ⟨rfl, rfl, hq9.sub (by simp)⟩
  rintro a10 s10 e w10 ⟨u10, rfl, rfl, hwf10⟩ HF11 hr; clear j0 j1 j2 j3 j4; clear HR; have HR := Lib.hid hr; clear hr; obtain ⟨t12, HT12⟩ := hidE (tokT c s10); (try simp only [NM, reduceIte, HT12.out, bt_n] at HR); obtain ⟨j0, j1, j2, j3, j4⟩ := HF11.b0.t5; go_wp2_with fail
  with_reducible refine HF11.bind HBt.out HB.out HR.out HO.out ?_ ?_
  · rintro s9 w9 rfl hq9; go_wp2_with fail; exact ⟨rfl, rfl, hq9.sub (by simp)⟩
  rintro a13 s13 e w13 ⟨rfl, hi13⟩ HF14 hr; unfold kidC; clear j0 j1 j2 j3 j4; clear HR; have HR := Lib.hid hr; clear hr; obtain ⟨t15, HT15⟩ := hidE (tokT c s13); (try simp only [NM, reduceIte, HT15.out, bt_n] at HR); obtain ⟨j0, j1, j2, j3, j4⟩ := HF14.b0.t5; go_wp2_with fail
  with_reducible refine HF14.bind (HWt.out 4 ⟨#[45, 62]⟩) HB.out HR.out HO.out ?_ ?_
  · rintro s9 w9 rfl hq9; go_wp2_with fail; exact ⟨rfl, rfl, hq9.sub (by simp)⟩
  rintro a16 s16 e w16 ⟨u16, rfl, rfl, hwf16⟩ HF17 hr; clear j0 j1 j2 j3 j4; clear HR; have HR := Lib.hid hr; clear hr; obtain ⟨t18, HT18⟩ := hidE (tokT c s16); (try simp only [NM, reduceIte, HT18.out, bt_n] at HR); obtain ⟨j0, j1, j2, j3, j4⟩ := HF17.b0.t5; go_upto_region 6 with (fail); refine wp_region_till [] (fun X => X.cell? ⟨b5, 0, none⟩ = some (.int .i64 t2.kind) ∧ X.cell? ⟨b5, 1, none⟩ = some (.string t2.text) ∧ X.cell? ⟨b5, 2, none⟩ = some (.int .i64 t2.n) ∧ X.cell? ⟨b5, 3, none⟩ = some (.int .i64 t2.line) ∧ X.cell? ⟨b5, 4, none⟩ = some (.int .i64 t2.col)) (by kernel_rfl) ?_ (fun hE => ?_)
  · exact ⟨j0, j1, j2, j3, j4⟩
  (have hS := hE (by kernel_rfl)); obtain ⟨w19, hw19⟩ : ∃ x, World.drew w16 = x := ⟨_, rfl⟩; rw [hw19] at hS ⊢; have HF20 := HF17.drew; rw [hw19] at HF20; clear hE hw19; clear j0 j1 j2 j3 j4; obtain ⟨j0, j1, j2, j3, j4⟩ := HF20.b0.t5; refine wpAnyT_pure (i := 0) (v := ?v6_0_21) rfl (by kernel_rfl) (fun _ _ _ h => h) (Or.inl ⟨by rfl, ?y6_0_21⟩) (fun _ => hS) ?_
  case y6_0_21 => (intro w hSw; go_simp; try with_reducible rfl)
  (try simp only [AP]); refine wpAnyT_take (i := 1) (v := ?v6_1_22) rfl (by kernel_rfl) (fun _ _ _ h => h) (Or.inl ⟨by rfl, ?y6_1_22⟩) hS ?_
  case y6_1_22 => (intro w hSw; (try dsimp only at hSw); go_simp; try with_reducible rfl)
  (try simp only [AP]); refine wpAnyT_pure (i := 2) (v := ?v6_2_23) rfl (by kernel_rfl) (fun _ _ _ h => h) (Or.inl ⟨by rfl, ?y6_2_23⟩) (fun _ => hS) ?_
  case y6_2_23 => (intro w hSw; go_simp; try with_reducible rfl)
  (try simp only [AP]); refine wpAnyT_pure (i := 3) (v := ?v6_3_24) rfl (by kernel_rfl) (fun _ _ _ h => h) (Or.inl ⟨by rfl, ?y6_3_24⟩) (fun _ => hS) ?_
  case y6_3_24 => (intro w hSw; go_simp; try with_reducible rfl)
  (try simp only [AP]); refine wpAnyT_pure (i := 4) (v := ?v6_4_25) rfl (by kernel_rfl) (fun _ _ _ h => h) (Or.inl ⟨by rfl, ?y6_4_25⟩) (fun _ => hS) ?_
  case y6_4_25 => (intro w hSw; go_simp; try with_reducible rfl)
  (try simp only [AP]); (refine wpAnyT_ready (rs := [5]) (by kernel_rfl) rfl ?_); (refine AllT.cons rfl (fun K hK => ?_) AllT.nil); go_simp
  with_reducible refine HF20.bind HBt.out HB.out HR.out HO.out ?_ ?_
  · rintro s9 w9 rfl hq9; go_wp2_with fail; exact ⟨rfl, rfl, hq9.sub (by simp)⟩
  rintro a26 s26 e w26 ⟨rfl, hi26⟩ HF27 hr; unfold kidC; clear j0 j1 j2 j3 j4; clear HR; have HR := Lib.hid hr; clear hr; obtain ⟨t28, HT28⟩ := hidE (tokT c s26); (try simp only [NM, reduceIte, HT28.out, bt_n] at HR); obtain ⟨j0, j1, j2, j3, j4⟩ := HF27.b0.t5; go_wp2_with fail; refine hK.out _ _ (fun _ => ?_) (fun hE => ?_)
  · exact ⟨j0, j1, j2, j3, j4⟩
  clear hS; (have hS := hE (by kernel_rfl)); clear hK K hE; (try simp only [AP]); (refine wpAnyT_ready (rs := [6]) (by kernel_rfl) rfl ?_); (refine AllT.cons rfl (fun K hK => ?_) AllT.nil); go_simp; refine name_world ?_; intro w29 hw29; have HF30 := HF27.kid2 98 a13 a26 hi13 hi26; rw [← hw29] at HF30; obtain ⟨b29, hb29⟩ : ∃ b, w26.heap.size = b := ⟨_, rfl⟩; rw [hb29] at HF30 ⊢; clear hw29 hb29; clear j0 j1 j2 j3 j4; obtain ⟨j0, j1, j2, j3, j4⟩ := HF30.b1.t5; refine hK.out _ _ (fun _ => ?_) (fun hE => ?_)
  · exact ⟨j0, j1, j2, j3, j4⟩
  clear hS; (have hS := hE (by kernel_rfl)); clear hK K hE; (try simp only [AP]); refine wpAnyT_pure (i := 7) (v := ?v6_7_31) rfl (by kernel_rfl) (fun _ _ _ h => h) (Or.inl ⟨by rfl, ?y6_7_31⟩) (fun _ => hS) ?_
  case y6_7_31 => (intro w hSw; go_simp; try with_reducible rfl)
  (try simp only [AP]); (refine wpAnyT_ready (rs := [8]) (by kernel_rfl) rfl ?_); (refine AllT.cons rfl (fun K hK => ?_) AllT.nil); go_simp; refine HF30.putT HB.out t2 { kind := 8, text := u7.text, kids := [a13, a26] } 98 ((.slice (some ⟨b29, 0, none⟩) 2 2)) [.box 3 b5 59 (TC t2)] (.inr List.mem_cons_self) (by simp [Loc.key]) HR.out ?_ ?_
  · rintro s9 w9 rfl hq9; go_wp2_with fail; exact ⟨rfl, rfl, hq9.sub (by simp)⟩
  intro i32 s32 w32 hi32 HF33 hr; unfold kidC; clear j0 j1 j2 j3 j4; clear HR; have HR := Lib.hid hr; clear hr; obtain ⟨j0, j1, j2, j3, j4⟩ := HF33.b0.t5; go_wp2_with fail; refine hK.out _ _ (fun _ => ?_) (fun hE => ?_)
  · exact ⟨j0, j1, j2, j3, j4⟩
  clear hS; (have hS := hE (by kernel_rfl)); clear hK K hE; (try simp only [AP]); (refine wpAnyT_ready (rs := [9]) (by kernel_rfl) rfl ?_); (refine AllT.cons rfl (fun K hK => ?_) AllT.nil); go_simp; refine hK.out _ _ (fun _ => ?_) (fun hE => ?_)
  · exact ⟨j0, j1, j2, j3, j4⟩
  clear hS; (have hS := hE (by kernel_rfl)); clear hK K hE; (try simp only [AP]); (refine wpAnyT_done (by kernel_rfl) ?_ _); clear hS; have hr := HR.out; clear HR; subst hr; go_wp2_with fail; go_ret; exact ⟨⟨rfl, hi32⟩, HF33.sub (by simp)⟩
end
end Go.Proofs.YtcjoapmodaioiaaGreatDoor
