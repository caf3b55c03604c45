/- The parser's expressions, walked (2). -/
import Derived.Test.YtcjoapmodaioiaaGreatDoorPaI
set_option linter.unusedVariables false
set_option linter.unusedSimpArgs false
namespace Go.Proofs.YtcjoapmodaioiaaGreatDoor
open Go.RowKit Go.Shelf Pa
set_option maxRecDepth 100000
set_option maxHeartbeats 8000000

section
variable {c : Cx}
theorem ops_step (hS : TokSt c.l) (n : Nat) (hn : n ≤ 1000000) (IH : ExAt c n) : Meth c 162 #[.pointer (some ⟨c.bp, 0, none⟩)] (exprs (c.l.map Tok.bt) (n + 1) .ops) vNum := by
  (refine Meth.mk fun E s0 r W HF1 hb hr ho => ?_); have HN := Lib.hid (next_any hS); (have HK := Lib.hid (fun k => kind_any hS k)); (have HWt := Lib.hid (fun k x => want_any hS k x)); have HPm := Lib.hid (param_any hS); have HIapply := Lib.hid IH.apply; have HIexpr := Lib.hid IH.expr; simp only [Pa.exprs] at hr; have HB := Lib.hid hb; have HO := Lib.hid ho; clear hb ho; have HR := Lib.hid hr; clear hr; obtain ⟨t2, HT2⟩ := hidE (tokT c s0); (try simp only [NM, reduceIte, HT2.out, bt_n] at HR); have fld0 := fldT0; have fld1 := fldT1; have fld2 := fldT2; go_enter Tryz.func162, Tryz.ntmps162; go_wp2_with fail
  with_reducible refine (HF1.tok).mono ?_
  rintro e w3 ⟨rfl, HF4⟩; rw [HT2.out]; go_upto_region 2 with (fail); obtain ⟨b5, w5, hb5, hw5, HF6⟩ := HF4.boxT 3 t2; rw [hw5, hb5]; clear hw5 hb5; obtain ⟨j0, j1, j2, j3, j4⟩ := HF6.b0.t5; go_wp2_with fail
  with_reducible refine HF6.bind HIapply.out HB.out HR.out HO.out ?_ ?_
  · rintro s9 w9 rfl hq9; go_wp2_with fail; exact ⟨rfl, rfl, hq9.sub (by simp)⟩
  rintro a7 s7 e w7 ⟨rfl, hi7⟩ HF8 hr; unfold kidC; clear j0 j1 j2 j3 j4; clear HR; have HR := Lib.hid hr; clear hr; obtain ⟨t9, HT9⟩ := hidE (tokT c s7); (try simp only [NM, reduceIte, HT9.out, bt_n] at HR); obtain ⟨j0, j1, j2, j3, j4⟩ := HF8.b0.t5; go_wp2_with fail; obtain ⟨b10, hb10⟩ : ∃ b, w7.heap.size = b := ⟨_, rfl⟩; obtain ⟨w10, hw10⟩ : ∃ w, w7.alloc (.cells #[.int .i64 (a7 : Int)] 3) = w := ⟨_, rfl⟩; have HF11 := HF8.kid1 4 a7 hi7; rw [hb10, hw10] at HF11; rw [hw10, hb10]; clear hw10 hb10; clear j0 j1 j2 j3 j4; obtain ⟨j0, j1, j2, j3, j4⟩ := HF11.b1.t5; have hr := HR.out; clear HR; obtain ⟨F12, g12, hFF12, hGG12, hr⟩ := split_loop hr; have HFF12 := Lib.hid hFF12; have HGG12 := Lib.hid hGG12; have HR := Lib.hid hr; clear hr hFF12 hGG12; (have HF13 := HF11.sub (L' := [.row 4 (.slice (some ⟨b10, 0, none⟩) 1 1) [a7], .box 3 b5 59 (TC t2)]) (by simp)); clear HF11; clear j0 j1 j2 j3 j4; go_wp2_with fail; go_loopg [4] n (fun gk x4 wr => ∃ (s5 : Ps) (l5 : List Nat), Fr c E 0 [.row 4 x4 l5, .box 3 b5 59 (TC t2)] s5 wr ∧ l5.length + 2 * gk ≤ 2000001 ∧ Hid ((loop F12 gk l5 >>= g12) s5 = r))
  case atStart => exact ⟨s7, [a7], HF13.out, by (try simp only [List.length_nil, List.length_cons]); omega, HR.out⟩
  case round =>
    obtain ⟨w12, rfl⟩ : ∃ w, w = wr := ⟨_, rfl⟩; clear HR HF13; obtain ⟨s12, l12, HF14, hl12, hr⟩ := hrel; obtain ⟨A12, cp12, hv12, _⟩ := own_formP HF14.r0; subst hv12; obtain _ | m12 := gk
    · exact absurd (loop_zero hr.out) HO.out
    have HR := Lib.hid (loop_step hr.out HFF12.out); clear hr; obtain ⟨t15, HT15⟩ := hidE (tokT c s12); (try simp only [NM, reduceIte, HT15.out, bt_n] at HR); obtain ⟨j0, j1, j2, j3, j4⟩ := HF14.b1.t5; go_wp2_with fail
    with_reducible refine (HF14.tok).mono ?_
    rintro e w16 ⟨rfl, HF17⟩; rw [HT15.out]; clear j0 j1 j2 j3 j4; obtain ⟨j0, j1, j2, j3, j4⟩ := HF17.b1.t5; obtain ⟨q18, eq18⟩ : ∃ q, (t15.bt.kind == 3) = q := ⟨_, rfl⟩; (try simp only [NM, reduceIte, eq18, bt_n] at HR); have hq18 : (t15.kind == 3) = q18 := eq18; (have nq18 : (t15.kind != 3) = !q18 := by rw [bne, hq18]); clear eq18; cases q18
    · simp only [NB] at nq18; (try simp only [NM, reduceIte, bt_n] at HR); (try simp only [NM, reduceIte, HGG12.out, bt_n] at HR); (try simp only [NM, reduceIte, HT15.out, bt_n] at HR); by_cases h1 : l12.length = 1
      · (have hdd : decide (l12.length = 1) = true := by simpa using h1); (have hdb : ((l12.length : Int) == 1) = true := by simp; omega); (try simp only [NM, reduceIte, h1, bt_n] at HR); obtain ⟨x9, hx9⟩ := List.length_eq_one_iff.1 h1; subst hx9; (have hkid := (HF17.row (k := 4) List.mem_cons_self).2 x9 (by simp)); (obtain ⟨g9, c9, hg9, _⟩ := World.ownsRow.form HF17.r0 (by simp)); simp only [Value.slice.injEq] at hg9; obtain ⟨rfl, -, rfl⟩ := hg9; (have hc9 : w16.cell? ⟨g9, 0, none⟩ = some (.int .i64 (x9 : Int)) := by have h := World.ownsRow.cells HF17.r0 (g := g9) rfl 0 (kidC x9) rfl; simpa [Go.WideShapes.add_plain, kidC] using h); simp only [List.headD_cons] at HR; have HKd := Lib.hid hkid; clear hkid; have hr := HR.out; clear HR; subst hr; go_wp2_with fail; go_ret; exact ⟨⟨rfl, HKd.out⟩, HF17.sub (by simp)⟩
      · (have hdd : decide (l12.length = 1) = false := by simpa using h1); (have hdb : ((l12.length : Int) == 1) = false := by simp; omega); (try simp only [NM, reduceIte, h1, bt_n] at HR); go_wp2_with fail; refine HF17.putT HB.out t2 { kind := 24, kids := l12 } 4 ((.slice A12 l12.length cp12)) [.box 3 b5 59 (TC t2)] (.inr List.mem_cons_self) (by simp [Loc.key]) HR.out ?_ ?_
        · rintro s9 w9 rfl hq9; go_wp2_with fail; exact ⟨rfl, rfl, hq9.sub (by simp)⟩
        intro i19 s19 w19 hi19 HF20 hr; unfold kidC; clear j0 j1 j2 j3 j4; clear HR; have HR := Lib.hid hr; clear hr; obtain ⟨j0, j1, j2, j3, j4⟩ := HF20.b0.t5; have hr := HR.out; clear HR; subst hr; go_wp2_with fail; go_ret; exact ⟨⟨rfl, hi19⟩, HF20.sub (by simp)⟩
    · simp only [NB] at nq18; (try simp only [NM, reduceIte, bt_n] at HR); go_wp2_with fail
      with_reducible refine HF17.bind HN.out HB.out HR.out HO.out ?_ ?_
      · rintro s9 w9 rfl hq9; go_wp2_with fail; exact ⟨rfl, rfl, hq9.sub (by simp)⟩
      rintro a21 s21 e w21 ⟨u21, rfl, rfl, hwf21⟩ HF22 hr; clear j0 j1 j2 j3 j4; clear HR; have HR := Lib.hid hr; clear hr; obtain ⟨t23, HT23⟩ := hidE (tokT c s21); (try simp only [NM, reduceIte, HT23.out, bt_n] at HR); obtain ⟨j0, j1, j2, j3, j4⟩ := HF22.b1.t5; go_upto_region 5 with (fail); obtain ⟨b24, w24, hb24, hw24, HF25⟩ := HF22.boxT 5 u21; rw [hw24, hb24]; clear hw24 hb24; clear j0 j1 j2 j3 j4; obtain ⟨j5, j6, j7, j8, j9⟩ := HF25.b0.t5; obtain ⟨j0, j1, j2, j3, j4⟩ := HF25.b2.t5; go_wp2_with fail; refine HF25.put HB.out u21 { kind := 3, text := u21.text } 999 (.slice none 0 0) [.box 5 b24 59 (TC u21), .row 4 (.slice A12 l12.length cp12) l12, .box 3 b5 59 (TC t2)] (.inl ⟨rfl, rfl⟩) (by simp [Loc.key]) HR.out ?_ ?_
      · rintro s9 w9 rfl hq9; go_wp2_with fail; exact ⟨rfl, rfl, hq9.sub (by simp)⟩
      intro i26 s26 w26 hi26 HF27 hr; unfold kidC; clear j5 j6 j7 j8 j9 j0 j1 j2 j3 j4; clear HR; have HR := Lib.hid hr; clear hr; obtain ⟨t28, HT28⟩ := hidE (tokT c s26); (try simp only [NM, reduceIte, HT28.out, bt_n] at HR); obtain ⟨j5, j6, j7, j8, j9⟩ := HF27.b0.t5; obtain ⟨j0, j1, j2, j3, j4⟩ := HF27.b2.t5; (go_wp2_with (at_builtin; (refine (HF27.kid1 99 i26 hi26).wpl_app rfl 4 (List.mem_cons_of_mem _ (List.mem_cons_of_mem _ List.mem_cons_self)) _ _ rfl rfl List.mem_cons_self hi26 rfl (by (try simp only [List.length_append, List.length_nil, List.length_cons]); omega) (L' := [.box 5 b24 59 (TC u21), .box 3 b5 59 (TC t2)]) (by simp [Loc.key]) ?_); intro v29 w29 HF30)); obtain ⟨A29, N29, cp29, hv29, hN29⟩ := own_form2 HF30.r0; subst hv29; clear j5 j6 j7 j8 j9 j0 j1 j2 j3 j4; obtain ⟨j5, j6, j7, j8, j9⟩ := HF30.b1.t5; obtain ⟨j0, j1, j2, j3, j4⟩ := HF30.b2.t5; go_wp2_with fail
      with_reducible refine (HF30.tok).mono ?_
      rintro e w31 ⟨rfl, HF32⟩; rw [HT28.out]; clear j5 j6 j7 j8 j9 j0 j1 j2 j3 j4; obtain ⟨j5, j6, j7, j8, j9⟩ := HF32.b1.t5; obtain ⟨j0, j1, j2, j3, j4⟩ := HF32.b2.t5; obtain ⟨q33, eq33⟩ : ∃ q, (t28.bt.kind == 4) = q := ⟨_, rfl⟩; (try simp only [NM, reduceIte, eq33, bt_n] at HR); have hq33 : (t28.kind == 4) = q33 := eq33; (have nq33 : (t28.kind != 4) = !q33 := by rw [bne, hq33]); clear eq33; cases q33
      · simp only [NB] at nq33; (try simp only [NM, reduceIte, bt_n] at HR); go_wp2_with fail
        with_reducible refine HF32.bind HIapply.out HB.out HR.out HO.out ?_ ?_
        · rintro s9 w9 rfl hq9; go_wp2_with fail; exact ⟨rfl, rfl, hq9.sub (by simp)⟩
        rintro a34 s34 e w34 ⟨rfl, hi34⟩ HF35 hr; unfold kidC; clear j5 j6 j7 j8 j9 j0 j1 j2 j3 j4; clear HR; have HR := Lib.hid hr; clear hr; obtain ⟨t36, HT36⟩ := hidE (tokT c s34); (try simp only [NM, reduceIte, HT36.out, bt_n] at HR); obtain ⟨j5, j6, j7, j8, j9⟩ := HF35.b1.t5; obtain ⟨j0, j1, j2, j3, j4⟩ := HF35.b2.t5; (go_wp2_with (at_builtin; (refine (HF35.kid1 99 a34 hi34).wpl_app rfl 4 (List.mem_cons_of_mem _ List.mem_cons_self) _ _ rfl rfl List.mem_cons_self hi34 rfl (by (try simp only [List.length_append, List.length_nil, List.length_cons]); omega) (L' := [.box 5 b24 59 (TC u21), .box 3 b5 59 (TC t2)]) (by simp [Loc.key]) ?_); intro v37 w37 HF38)); obtain ⟨A37, N37, cp37, hv37, hN37⟩ := own_form2 HF38.r0; subst hv37; clear j5 j6 j7 j8 j9 j0 j1 j2 j3 j4; obtain ⟨j5, j6, j7, j8, j9⟩ := HF38.b1.t5; obtain ⟨j0, j1, j2, j3, j4⟩ := HF38.b2.t5; go_wp2_with fail; go_roundg m12
        case measure => omega
        case rel => exact ⟨s34, ((l12 ++ [i26]) ++ [a34]), HF38.sub (L' := [.row 4 (.slice A37 N37 cp37) ((l12 ++ [i26]) ++ [a34]), .box 3 b5 59 (TC t2)]) (by simp), by (try simp only [List.length_append, List.length_nil, List.length_cons]); omega, HR.out⟩
      · simp only [NB] at nq33; (try simp only [NM, reduceIte, bt_n] at HR); go_wp2_with fail
        with_reducible refine HF32.bind HIexpr.out HB.out HR.out HO.out ?_ ?_
        · rintro s9 w9 rfl hq9; go_wp2_with fail; exact ⟨rfl, rfl, hq9.sub (by simp)⟩
        rintro a39 s39 e w39 ⟨rfl, hi39⟩ HF40 hr; unfold kidC; clear j5 j6 j7 j8 j9 j0 j1 j2 j3 j4; clear HR; have HR := Lib.hid hr; clear hr; obtain ⟨t41, HT41⟩ := hidE (tokT c s39); (try simp only [NM, reduceIte, HT41.out, bt_n] at HR); obtain ⟨j5, j6, j7, j8, j9⟩ := HF40.b1.t5; obtain ⟨j0, j1, j2, j3, j4⟩ := HF40.b2.t5; (go_wp2_with (at_builtin; (refine (HF40.kid1 99 a39 hi39).wpl_app rfl 4 (List.mem_cons_of_mem _ List.mem_cons_self) _ _ rfl rfl List.mem_cons_self hi39 rfl (by (try simp only [List.length_append, List.length_nil, List.length_cons]); omega) (L' := [.box 5 b24 59 (TC u21), .box 3 b5 59 (TC t2)]) (by simp [Loc.key]) ?_); intro v42 w42 HF43)); obtain ⟨A42, N42, cp42, hv42, hN42⟩ := own_form2 HF43.r0; subst hv42; clear j5 j6 j7 j8 j9 j0 j1 j2 j3 j4; obtain ⟨j5, j6, j7, j8, j9⟩ := HF43.b1.t5; obtain ⟨j0, j1, j2, j3, j4⟩ := HF43.b2.t5; go_upto_region 9 with (fail); (try simp only [NM, reduceIte, HGG12.out, bt_n] at HR); (try simp only [NM, reduceIte, HT41.out, bt_n] at HR); (have hno : ¬ (((l12 ++ [i26]) ++ [a39])).length = 1 := by simp only [List.length_append, List.length_cons, List.length_nil]; omega); (have hdd : decide (N42 = 1) = false := by have h := hN42.out; have h2 := hno; rw [← h] at h2; simpa using h2); (have hdb : ((N42 : Int) == 1) = false := (by have h : ¬ N42 = 1 := (by simpa using hdd); simp; omega)); (try simp only [NM, reduceIte, hno, bt_n] at HR); go_wp2_with fail; go_simp; rename_i hK; refine hK _ _ ?_; clear hK; go_wp2_with fail; refine HF43.putT HB.out t2 { kind := 24, kids := ((l12 ++ [i26]) ++ [a39]) } 4 ((.slice A42 N42 cp42)) [.box 5 b24 59 (TC u21), .box 3 b5 59 (TC t2)] (.inr List.mem_cons_self) (by simp [Loc.key]) HR.out ?_ ?_
        · rintro s9 w9 rfl hq9; go_wp2_with fail; exact ⟨rfl, rfl, hq9.sub (by simp)⟩
        intro i44 s44 w44 hi44 HF45 hr; unfold kidC; clear j5 j6 j7 j8 j9 j0 j1 j2 j3 j4; clear HR; have HR := Lib.hid hr; clear hr; obtain ⟨j5, j6, j7, j8, j9⟩ := HF45.b0.t5; obtain ⟨j0, j1, j2, j3, j4⟩ := HF45.b1.t5; have hr := HR.out; clear HR; subst hr; go_wp2_with fail; go_ret; exact ⟨⟨rfl, hi44⟩, HF45.sub (by simp)⟩
theorem expr_step (hS : TokSt c.l) (n : Nat) (hn : n ≤ 1000000) (IH : ExAt c n) : Meth c 156 #[.pointer (some ⟨c.bp, 0, none⟩)] (exprs (c.l.map Tok.bt) (n + 1) .expr) vNum := by
  (refine Meth.mk0 fun E s0 r W HF1 hb hr ho h0 => ?_); have HN := Lib.hid (next_any hS); (have HK := Lib.hid (fun k => kind_any hS k)); (have HWt := Lib.hid (fun k x => want_any hS k x)); have HPm := Lib.hid (param_any hS); have HIexpr := Lib.hid IH.expr; have HIops := Lib.hid IH.ops; have HIalt := Lib.hid IH.alt; have HIclause := Lib.hid IH.clause; have HIdefn := Lib.hid IH.defn; simp only [Pa.exprs] at hr; (have hmf : ∀ (fn : Fn) (first cap : Array Value) (w : World), (Instr.makeFunc fn first cap).run Tryz.prog w = .ok (.func fn first cap) w := fun _ _ _ _ => rfl); (have HBl := Lib.hid (fun (F : Nat) (hE : ∀ (args : Array Value) (w : World), (callFunc F args).run Tryz.prog w = .ok (.enter F args) w) (item : Pm Nat) (M : Meth c F #[.pointer (some ⟨c.bp, 0, none⟩)] item vNum) => block_any hS n hn F hE item M)); have HB := Lib.hid hb; have HO := Lib.hid ho; clear hb ho; have HR := Lib.hid hr; clear hr; obtain ⟨t2, HT2⟩ := hidE (tokT c s0); (try simp only [NM, reduceIte, HT2.out, bt_n] at HR); have fld0 := fldT0; have fld1 := fldT1; have fld2 := fldT2; go_enter_defers Tryz.func156, Tryz.ntmps156; go_wp2_with fail
  with_reducible refine HF1.down HB.out HR.out HO.out ?_ ?_
  · rintro s9 w9 rfl hq9; go_wp2_with fail; exact up_no0 rfl ⟨rfl, hq9.sub (by simp)⟩
  intro s3 w3 HF4 hr; clear HR; have HR := Lib.hid hr; clear hr; obtain ⟨t5, HT5⟩ := hidE (tokT c s3); (try simp only [NM, reduceIte, HT5.out, bt_n] at HR); go_wp2_with fail
  with_reducible refine (HF4.tok).mono ?_
  rintro e w6 ⟨rfl, HF7⟩; rw [HT5.out]; go_upto_region 4 with (fail); obtain ⟨b8, w8, hb8, hw8, HF9⟩ := HF7.boxT 3 t5; rw [hw8, hb8]; clear hw8 hb8; obtain ⟨j0, j1, j2, j3, j4⟩ := HF9.b0.t5; obtain ⟨q10, eq10⟩ : ∃ q, (t5.bt.kind == 4) = q := ⟨_, rfl⟩; (try simp only [NM, reduceIte, eq10, bt_n] at HR); have hq10 : (t5.kind == 4) = q10 := eq10; (have nq10 : (t5.kind != 4) = !q10 := by rw [bne, hq10]); clear eq10; cases q10
  · simp only [NB] at nq10; (try simp only [NM, reduceIte, bt_n] at HR); go_wp2_with fail
    with_reducible refine HF9.bind HIops.out HB.out HR.out HO.out ?_ ?_
    · rintro s9 w9 rfl hq9; go_wp2_with fail; exact up_no rfl h0 hq9 (fun w hq => ⟨rfl, hq⟩)
    rintro a11 s11 e w11 ⟨rfl, hi11⟩ HF12 hr; unfold kidC; clear j0 j1 j2 j3 j4; clear HR; have HR := Lib.hid hr; clear hr; obtain ⟨t13, HT13⟩ := hidE (tokT c s11); (try simp only [NM, reduceIte, HT13.out, bt_n] at HR); obtain ⟨j0, j1, j2, j3, j4⟩ := HF12.b0.t5; have hr := HR.out; clear HR; subst hr; go_wp2_with fail; exact up_ret rfl h0 HF12.out (fun w => results_tmp rfl _ _ _) (fun w hq => ⟨⟨rfl, hi11⟩, hq⟩)
  · simp only [NB] at nq10; (try simp only [NM, reduceIte, bt_n] at HR); obtain ⟨q14, hq14⟩ : ∃ q, isX t5.bt ⟨#[92]⟩ = q := ⟨_, rfl⟩; (have gq14 : (t5.text.toList == [92]) = q14 := by rw [← hq14, isX_eq, show (⟨#[92]⟩ : ByteArray).toList = [92] from by kernel_rfl]); (have nq14 : (t5.text.toList != [92]) = !q14 := by rw [bne, gq14]); (try simp only [NM, reduceIte, hq14, bt_n] at HR); clear hq14; cases q14
    · simp only [NB] at nq14; (try simp only [NM, reduceIte, bt_n] at HR); obtain ⟨q15, hq15⟩ : ∃ q, isX t5.bt ⟨#[108, 101, 116]⟩ = q := ⟨_, rfl⟩; (have gq15 : (t5.text.toList == [108, 101, 116]) = q15 := by rw [← hq15, isX_eq, show (⟨#[108, 101, 116]⟩ : ByteArray).toList = [108, 101, 116] from by kernel_rfl]); (have nq15 : (t5.text.toList != [108, 101, 116]) = !q15 := by rw [bne, gq15]); (try simp only [NM, reduceIte, hq15, bt_n] at HR); clear hq15; cases q15
      · simp only [NB] at nq15; (try simp only [NM, reduceIte, bt_n] at HR); obtain ⟨q16, hq16⟩ : ∃ q, isX t5.bt ⟨#[105, 102]⟩ = q := ⟨_, rfl⟩; (have gq16 : (t5.text.toList == [105, 102]) = q16 := by rw [← hq16, isX_eq, show (⟨#[105, 102]⟩ : ByteArray).toList = [105, 102] from by kernel_rfl]); (have nq16 : (t5.text.toList != [105, 102]) = !q16 := by rw [bne, gq16]); (try simp only [NM, reduceIte, hq16, bt_n] at HR); clear hq16; cases q16
        · simp only [NB] at nq16; (try simp only [NM, reduceIte, bt_n] at HR); obtain ⟨q17, hq17⟩ : ∃ q, isX t5.bt ⟨#[99, 97, 115, 101]⟩ = q := ⟨_, rfl⟩; (have gq17 : (t5.text.toList == [99, 97, 115, 101]) = q17 := by rw [← hq17, isX_eq, show (⟨#[99, 97, 115, 101]⟩ : ByteArray).toList = [99, 97, 115, 101] from by kernel_rfl]); (have nq17 : (t5.text.toList != [99, 97, 115, 101]) = !q17 := by rw [bne, gq17]); (try simp only [NM, reduceIte, hq17, bt_n] at HR); clear hq17; cases q17
          · simp only [NB] at nq17; (try simp only [NM, reduceIte, bt_n] at HR); obtain ⟨q18, hq18⟩ : ∃ q, isX t5.bt ⟨#[104, 97, 110, 100, 108, 101]⟩ = q := ⟨_, rfl⟩; (have gq18 : (t5.text.toList == [104, 97, 110, 100, 108, 101]) = q18 := by rw [← hq18, isX_eq, show (⟨#[104, 97, 110, 100, 108, 101]⟩ : ByteArray).toList = [104, 97, 110, 100, 108, 101] from by kernel_rfl]); (have nq18 : (t5.text.toList != [104, 97, 110, 100, 108, 101]) = !q18 := by rw [bne, gq18]); (try simp only [NM, reduceIte, hq18, bt_n] at HR); clear hq18; cases q18
            · simp only [NB] at nq18; (try simp only [NM, reduceIte, bt_n] at HR); go_wp2_with fail
              with_reducible refine (HF9.fail' 5 HB.out).mono ?_
              rintro e w19 ⟨rfl, hq⟩; have hq := Lib.hid hq; have hr := HR.out; clear HR; subst hr; clear j0 j1 j2 j3 j4; go_wp2_with fail; exact up_no rfl h0 hq.out (fun w hq => ⟨rfl, hq⟩)
            · simp only [NB] at nq18; (try simp only [NM, reduceIte, bt_n] at HR); go_wp2_with fail
              with_reducible refine HF9.bind HN.out HB.out HR.out HO.out ?_ ?_
              · rintro s9 w9 rfl hq9; go_wp2_with fail; exact up_no rfl h0 hq9 (fun w hq => ⟨rfl, hq⟩)
              rintro a20 s20 e w20 ⟨u20, rfl, rfl, hwf20⟩ HF21 hr; clear j0 j1 j2 j3 j4; clear HR; have HR := Lib.hid hr; clear hr; obtain ⟨t22, HT22⟩ := hidE (tokT c s20); (try simp only [NM, reduceIte, HT22.out, bt_n] at HR); obtain ⟨j0, j1, j2, j3, j4⟩ := HF21.b0.t5; go_wp2_with fail
              with_reducible refine HF21.bind HIexpr.out HB.out HR.out HO.out ?_ ?_
              · rintro s9 w9 rfl hq9; go_wp2_with fail; exact up_no rfl h0 hq9 (fun w hq => ⟨rfl, hq⟩)
              rintro a23 s23 e w23 ⟨rfl, hi23⟩ HF24 hr; unfold kidC; clear j0 j1 j2 j3 j4; clear HR; have HR := Lib.hid hr; clear hr; obtain ⟨t25, HT25⟩ := hidE (tokT c s23); (try simp only [NM, reduceIte, HT25.out, bt_n] at HR); obtain ⟨j0, j1, j2, j3, j4⟩ := HF24.b0.t5; go_upto_region 34 with (fail); obtain ⟨b26, hb26⟩ : ∃ b, w23.heap.size = b := ⟨_, rfl⟩; obtain ⟨w26, hw26⟩ : ∃ w, w23.alloc (.cells #[.int .i64 (a23 : Int)] 3) = w := ⟨_, rfl⟩; have HF27 := HF24.kid1 9 a23 hi23; rw [hb26, hw26] at HF27; rw [hw26, hb26]; clear hw26 hb26; clear j0 j1 j2 j3 j4; obtain ⟨j0, j1, j2, j3, j4⟩ := HF27.b1.t5; go_wp2_with fail
              with_reducible refine HF27.bind (HWt.out 4 ⟨#[119, 105, 116, 104]⟩) HB.out HR.out HO.out ?_ ?_
              · rintro s9 w9 rfl hq9; go_wp2_with fail; exact up_no rfl h0 hq9 (fun w hq => ⟨rfl, hq⟩)
              rintro a28 s28 e w28 ⟨u28, rfl, rfl, hwf28⟩ HF29 hr; clear j0 j1 j2 j3 j4; clear HR; have HR := Lib.hid hr; clear hr; obtain ⟨t30, HT30⟩ := hidE (tokT c s28); (try simp only [NM, reduceIte, HT30.out, bt_n] at HR); obtain ⟨j0, j1, j2, j3, j4⟩ := HF29.b1.t5; go_upto_region 35 with (fail); refine wp_anyT ?_; refine wp_region_till [] (fun X => X.cell? ⟨b8, 0, none⟩ = some (.int .i64 t5.kind) ∧ X.cell? ⟨b8, 1, none⟩ = some (.string t5.text) ∧ X.cell? ⟨b8, 2, none⟩ = some (.int .i64 t5.n) ∧ X.cell? ⟨b8, 3, none⟩ = some (.int .i64 t5.line) ∧ X.cell? ⟨b8, 4, none⟩ = some (.int .i64 t5.col)) (by kernel_rfl) ?_ (fun hE => ?_)
              · exact ⟨j0, j1, j2, j3, j4⟩
              (have hS := hE (by kernel_rfl)); obtain ⟨w31, hw31⟩ : ∃ x, World.drew w28 = x := ⟨_, rfl⟩; rw [hw31] at hS ⊢; have HF32 := HF29.drew; rw [hw31] at HF32; clear hE hw31; clear j0 j1 j2 j3 j4; obtain ⟨j0, j1, j2, j3, j4⟩ := HF32.b1.t5; refine wpAnyT_pure (i := 0) (v := ?v35_0_33) rfl (by kernel_rfl) (fun _ _ _ h => h) (Or.inl ⟨by rfl, ?y35_0_33⟩) (fun _ => hS) ?_
              case y35_0_33 => (intro w hSw; go_simp; try with_reducible rfl)
              (try simp only [AP]); refine wpAnyT_take (i := 1) (v := ?v35_1_34) rfl (by kernel_rfl) (fun _ _ _ h => h) (Or.inl ⟨by rfl, ?y35_1_34⟩) hS ?_
              case y35_1_34 => (intro w hSw; (try dsimp only at hSw); go_simp; try with_reducible rfl)
              (try simp only [AP]); refine wpAnyT_pure (i := 2) (v := ?v35_2_35) rfl (by kernel_rfl) (fun _ _ _ h => h) (Or.inl ⟨by rfl, ?y35_2_35⟩) (fun _ => hS) ?_
              case y35_2_35 => (intro w hSw; go_simp; try with_reducible rfl)
              (try simp only [AP]); refine wpAnyT_pure (i := 3) (v := ?v35_3_36) rfl (by kernel_rfl) (fun _ _ _ h => h) (Or.inl ⟨by rfl, ?y35_3_36⟩) (fun _ => hS) ?_
              case y35_3_36 => (intro w hSw; go_simp; try with_reducible rfl)
              (try simp only [AP]); refine wpAnyT_pure (i := 4) (v := ?v35_4_37) rfl (by kernel_rfl) (fun _ _ _ h => h) (Or.inl ⟨by rfl, ?y35_4_37⟩) (fun _ => hS) ?_
              case y35_4_37 => (intro w hSw; go_simp; try with_reducible rfl)
              (try simp only [AP]); (refine wpAnyT_ready (rs := [5]) (by kernel_rfl) rfl ?_); (refine AllT.cons rfl (fun K hK => ?_) AllT.nil); go_simp; refine hK.out _ _ (fun _ => ?_) (fun hE => ?_)
              · exact ⟨j0, j1, j2, j3, j4⟩
              clear hS; (have hS := hE (by kernel_rfl)); clear hK K hE; (try simp only [AP]); (refine wpAnyT_ready (rs := [6]) (by kernel_rfl) rfl ?_); (refine AllT.cons rfl (fun K hK => ?_) AllT.nil); go_simp
              with_reducible refine HF32.bindR 97 (HBl.out 164 (fun _ _ => by kernel_rfl) _ HIclause.out) HB.out HR.out HO.out ?_ ?_
              · rintro s9 w9 rfl hq9; go_wp2_with fail; exact AnyT.panic (fun _ => up_no rfl h0 hq9 (fun w hq => ⟨rfl, hq⟩))
              intro l38 s38 v38 w38 hl38 HF39 hr; obtain ⟨A38, N38, cp38, hv38, hN38⟩ := own_form2 HF39.r0; subst hv38; clear j0 j1 j2 j3 j4; clear HR; have HR := Lib.hid hr; clear hr; obtain ⟨t40, HT40⟩ := hidE (tokT c s38); (try simp only [NM, reduceIte, HT40.out, bt_n] at HR); obtain ⟨j0, j1, j2, j3, j4⟩ := HF39.b2.t5; go_wp2_with fail; refine hK.out _ _ (fun _ => ?_) (fun hE => ?_)
              · exact ⟨j0, j1, j2, j3, j4⟩
              clear hS; (have hS := hE (by kernel_rfl)); clear hK K hE; (try simp only [AP]); (refine wpAnyT_ready (rs := [7]) (by kernel_rfl) rfl ?_); (refine AllT.cons rfl (fun K hK => ?_) AllT.nil); (refine HF39.st_appR rfl 9 (List.mem_cons_of_mem _ List.mem_cons_self) _ _ rfl rfl List.mem_cons_self rfl (by (try simp only [List.length_append, List.length_nil, List.length_cons]); omega) (L' := [.box 3 b8 59 (TC t5)]) (by simp [Loc.key]) ?_); intro v41 w41 HF42; obtain ⟨A41, N41, cp41, hv41, hN41⟩ := own_form2 HF42.r0; subst hv41; clear j0 j1 j2 j3 j4; obtain ⟨j0, j1, j2, j3, j4⟩ := HF42.b1.t5; refine hK.out _ _ (fun _ => ?_) (fun hE => ?_)
              · exact ⟨j0, j1, j2, j3, j4⟩
              clear hS; (have hS := hE (by kernel_rfl)); clear hK K hE; (try simp only [AP]); refine wpAnyT_pure (i := 8) (v := ?v35_8_43) rfl (by kernel_rfl) (fun _ _ _ h => h) (Or.inl ⟨by rfl, ?y35_8_43⟩) (fun _ => hS) ?_
              case y35_8_43 => (intro w hSw; go_simp; try with_reducible rfl)
              (try simp only [AP]); (refine wpAnyT_ready (rs := [9]) (by kernel_rfl) rfl ?_); (refine AllT.cons rfl (fun K hK => ?_) AllT.nil); go_simp; refine HF42.put HB.out t5 { kind := 32, kids := ([a23] ++ l38) } 9 ((.slice A41 N41 cp41)) [.box 3 b8 59 (TC t5)] (.inr List.mem_cons_self) (by simp [Loc.key]) HR.out ?_ ?_
              · rintro s9 w9 rfl hq9; go_wp2_with fail; exact AnyT.panic (fun _ => up_no rfl h0 hq9 (fun w hq => ⟨rfl, hq⟩))
              intro i44 s44 w44 hi44 HF45 hr; unfold kidC; clear j0 j1 j2 j3 j4; clear HR; have HR := Lib.hid hr; clear hr; obtain ⟨t46, HT46⟩ := hidE (tokT c s44); (try simp only [NM, reduceIte, HT46.out, bt_n] at HR); obtain ⟨j0, j1, j2, j3, j4⟩ := HF45.b0.t5; go_wp2_with fail; refine hK.out _ _ (fun _ => ?_) (fun hE => ?_)
              · exact ⟨j0, j1, j2, j3, j4⟩
              clear hS; (have hS := hE (by kernel_rfl)); clear hK K hE; (try simp only [AP]); (refine wpAnyT_ready (rs := [10]) (by kernel_rfl) rfl ?_); (refine AllT.cons rfl (fun K hK => ?_) AllT.nil); go_simp; refine hK.out _ _ (fun _ => ?_) (fun hE => ?_)
              · exact ⟨j0, j1, j2, j3, j4⟩
              clear hS; (have hS := hE (by kernel_rfl)); clear hK K hE; (try simp only [AP]); (refine wpAnyT_done (by kernel_rfl) ?_ _); clear hS; refine AnyT.normal ?_; have hr := HR.out; clear HR; subst hr; go_wp2_with fail; exact up_ret rfl h0 HF45.out (fun w => results_tmp rfl _ _ _) (fun w hq => ⟨⟨rfl, hi44⟩, hq⟩)
          · simp only [NB] at nq17; (try simp only [NM, reduceIte, bt_n] at HR); go_wp2_with fail
            with_reducible refine HF9.bind HN.out HB.out HR.out HO.out ?_ ?_
            · rintro s9 w9 rfl hq9; go_wp2_with fail; exact up_no rfl h0 hq9 (fun w hq => ⟨rfl, hq⟩)
            rintro a47 s47 e w47 ⟨u47, rfl, rfl, hwf47⟩ HF48 hr; clear j0 j1 j2 j3 j4; clear HR; have HR := Lib.hid hr; clear hr; obtain ⟨t49, HT49⟩ := hidE (tokT c s47); (try simp only [NM, reduceIte, HT49.out, bt_n] at HR); obtain ⟨j0, j1, j2, j3, j4⟩ := HF48.b0.t5; go_wp2_with fail
            with_reducible refine HF48.bind HIexpr.out HB.out HR.out HO.out ?_ ?_
            · rintro s9 w9 rfl hq9; go_wp2_with fail; exact up_no rfl h0 hq9 (fun w hq => ⟨rfl, hq⟩)
            rintro a50 s50 e w50 ⟨rfl, hi50⟩ HF51 hr; unfold kidC; clear j0 j1 j2 j3 j4; clear HR; have HR := Lib.hid hr; clear hr; obtain ⟨t52, HT52⟩ := hidE (tokT c s50); (try simp only [NM, reduceIte, HT52.out, bt_n] at HR); obtain ⟨j0, j1, j2, j3, j4⟩ := HF51.b0.t5; go_upto_region 29 with (fail); obtain ⟨b53, hb53⟩ : ∃ b, w50.heap.size = b := ⟨_, rfl⟩; obtain ⟨w53, hw53⟩ : ∃ w, w50.alloc (.cells #[.int .i64 (a50 : Int)] 3) = w := ⟨_, rfl⟩; have HF54 := HF51.kid1 8 a50 hi50; rw [hb53, hw53] at HF54; rw [hw53, hb53]; clear hw53 hb53; clear j0 j1 j2 j3 j4; obtain ⟨j0, j1, j2, j3, j4⟩ := HF54.b1.t5; go_wp2_with fail
            with_reducible refine HF54.bind (HWt.out 4 ⟨#[111, 102]⟩) HB.out HR.out HO.out ?_ ?_
            · rintro s9 w9 rfl hq9; go_wp2_with fail; exact up_no rfl h0 hq9 (fun w hq => ⟨rfl, hq⟩)
            rintro a55 s55 e w55 ⟨u55, rfl, rfl, hwf55⟩ HF56 hr; clear j0 j1 j2 j3 j4; clear HR; have HR := Lib.hid hr; clear hr; obtain ⟨t57, HT57⟩ := hidE (tokT c s55); (try simp only [NM, reduceIte, HT57.out, bt_n] at HR); obtain ⟨j0, j1, j2, j3, j4⟩ := HF56.b1.t5; go_upto_region 30 with (fail); refine wp_anyT ?_; refine wp_region_till [] (fun X => X.cell? ⟨b8, 0, none⟩ = some (.int .i64 t5.kind) ∧ X.cell? ⟨b8, 1, none⟩ = some (.string t5.text) ∧ X.cell? ⟨b8, 2, none⟩ = some (.int .i64 t5.n) ∧ X.cell? ⟨b8, 3, none⟩ = some (.int .i64 t5.line) ∧ X.cell? ⟨b8, 4, none⟩ = some (.int .i64 t5.col)) (by kernel_rfl) ?_ (fun hE => ?_)
            · exact ⟨j0, j1, j2, j3, j4⟩
            (have hS := hE (by kernel_rfl)); obtain ⟨w58, hw58⟩ : ∃ x, World.drew w55 = x := ⟨_, rfl⟩; rw [hw58] at hS ⊢; have HF59 := HF56.drew; rw [hw58] at HF59; clear hE hw58; clear j0 j1 j2 j3 j4; obtain ⟨j0, j1, j2, j3, j4⟩ := HF59.b1.t5; refine wpAnyT_pure (i := 0) (v := ?v30_0_60) rfl (by kernel_rfl) (fun _ _ _ h => h) (Or.inl ⟨by rfl, ?y30_0_60⟩) (fun _ => hS) ?_
            case y30_0_60 => (intro w hSw; go_simp; try with_reducible rfl)
            (try simp only [AP]); refine wpAnyT_take (i := 1) (v := ?v30_1_61) rfl (by kernel_rfl) (fun _ _ _ h => h) (Or.inl ⟨by rfl, ?y30_1_61⟩) hS ?_
            case y30_1_61 => (intro w hSw; (try dsimp only at hSw); go_simp; try with_reducible rfl)
            (try simp only [AP]); refine wpAnyT_pure (i := 2) (v := ?v30_2_62) rfl (by kernel_rfl) (fun _ _ _ h => h) (Or.inl ⟨by rfl, ?y30_2_62⟩) (fun _ => hS) ?_
            case y30_2_62 => (intro w hSw; go_simp; try with_reducible rfl)
            (try simp only [AP]); refine wpAnyT_pure (i := 3) (v := ?v30_3_63) rfl (by kernel_rfl) (fun _ _ _ h => h) (Or.inl ⟨by rfl, ?y30_3_63⟩) (fun _ => hS) ?_
            case y30_3_63 => (intro w hSw; go_simp; try with_reducible rfl)
            (try simp only [AP]); refine wpAnyT_pure (i := 4) (v := ?v30_4_64) rfl (by kernel_rfl) (fun _ _ _ h => h) (Or.inl ⟨by rfl, ?y30_4_64⟩) (fun _ => hS) ?_
            case y30_4_64 => (intro w hSw; go_simp; try with_reducible rfl)
            (try simp only [AP]); (refine wpAnyT_ready (rs := [5]) (by kernel_rfl) rfl ?_); (refine AllT.cons rfl (fun K hK => ?_) AllT.nil); go_simp; refine hK.out _ _ (fun _ => ?_) (fun hE => ?_)
            · exact ⟨j0, j1, j2, j3, j4⟩
            clear hS; (have hS := hE (by kernel_rfl)); clear hK K hE; (try simp only [AP]); (refine wpAnyT_ready (rs := [6]) (by kernel_rfl) rfl ?_); (refine AllT.cons rfl (fun K hK => ?_) AllT.nil); go_simp
            with_reducible refine HF59.bindR 97 (HBl.out 163 (fun _ _ => by kernel_rfl) _ HIalt.out) HB.out HR.out HO.out ?_ ?_
            · rintro s9 w9 rfl hq9; go_wp2_with fail; exact AnyT.panic (fun _ => up_no rfl h0 hq9 (fun w hq => ⟨rfl, hq⟩))
            intro l65 s65 v65 w65 hl65 HF66 hr; obtain ⟨A65, N65, cp65, hv65, hN65⟩ := own_form2 HF66.r0; subst hv65; clear j0 j1 j2 j3 j4; clear HR; have HR := Lib.hid hr; clear hr; obtain ⟨t67, HT67⟩ := hidE (tokT c s65); (try simp only [NM, reduceIte, HT67.out, bt_n] at HR); obtain ⟨j0, j1, j2, j3, j4⟩ := HF66.b2.t5; go_wp2_with fail; refine hK.out _ _ (fun _ => ?_) (fun hE => ?_)
            · exact ⟨j0, j1, j2, j3, j4⟩
            clear hS; (have hS := hE (by kernel_rfl)); clear hK K hE; (try simp only [AP]); (refine wpAnyT_ready (rs := [7]) (by kernel_rfl) rfl ?_); (refine AllT.cons rfl (fun K hK => ?_) AllT.nil); (refine HF66.st_appR rfl 8 (List.mem_cons_of_mem _ List.mem_cons_self) _ _ rfl rfl List.mem_cons_self rfl (by (try simp only [List.length_append, List.length_nil, List.length_cons]); omega) (L' := [.box 3 b8 59 (TC t5)]) (by simp [Loc.key]) ?_); intro v68 w68 HF69; obtain ⟨A68, N68, cp68, hv68, hN68⟩ := own_form2 HF69.r0; subst hv68; clear j0 j1 j2 j3 j4; obtain ⟨j0, j1, j2, j3, j4⟩ := HF69.b1.t5; refine hK.out _ _ (fun _ => ?_) (fun hE => ?_)
            · exact ⟨j0, j1, j2, j3, j4⟩
            clear hS; (have hS := hE (by kernel_rfl)); clear hK K hE; (try simp only [AP]); refine wpAnyT_pure (i := 8) (v := ?v30_8_70) rfl (by kernel_rfl) (fun _ _ _ h => h) (Or.inl ⟨by rfl, ?y30_8_70⟩) (fun _ => hS) ?_
            case y30_8_70 => (intro w hSw; go_simp; try with_reducible rfl)
            (try simp only [AP]); (refine wpAnyT_ready (rs := [9]) (by kernel_rfl) rfl ?_); (refine AllT.cons rfl (fun K hK => ?_) AllT.nil); go_simp; refine HF69.put HB.out t5 { kind := 27, kids := ([a50] ++ l65) } 8 ((.slice A68 N68 cp68)) [.box 3 b8 59 (TC t5)] (.inr List.mem_cons_self) (by simp [Loc.key]) HR.out ?_ ?_
            · rintro s9 w9 rfl hq9; go_wp2_with fail; exact AnyT.panic (fun _ => up_no rfl h0 hq9 (fun w hq => ⟨rfl, hq⟩))
            intro i71 s71 w71 hi71 HF72 hr; unfold kidC; clear j0 j1 j2 j3 j4; clear HR; have HR := Lib.hid hr; clear hr; obtain ⟨t73, HT73⟩ := hidE (tokT c s71); (try simp only [NM, reduceIte, HT73.out, bt_n] at HR); obtain ⟨j0, j1, j2, j3, j4⟩ := HF72.b0.t5; go_wp2_with fail; refine hK.out _ _ (fun _ => ?_) (fun hE => ?_)
            · exact ⟨j0, j1, j2, j3, j4⟩
            clear hS; (have hS := hE (by kernel_rfl)); clear hK K hE; (try simp only [AP]); (refine wpAnyT_ready (rs := [10]) (by kernel_rfl) rfl ?_); (refine AllT.cons rfl (fun K hK => ?_) AllT.nil); go_simp; refine hK.out _ _ (fun _ => ?_) (fun hE => ?_)
            · exact ⟨j0, j1, j2, j3, j4⟩
            clear hS; (have hS := hE (by kernel_rfl)); clear hK K hE; (try simp only [AP]); (refine wpAnyT_done (by kernel_rfl) ?_ _); clear hS; refine AnyT.normal ?_; have hr := HR.out; clear HR; subst hr; go_wp2_with fail; exact up_ret rfl h0 HF72.out (fun w => results_tmp rfl _ _ _) (fun w hq => ⟨⟨rfl, hi71⟩, hq⟩)
        · simp only [NB] at nq16; (try simp only [NM, reduceIte, bt_n] at HR); go_wp2_with fail
          with_reducible refine HF9.bind HN.out HB.out HR.out HO.out ?_ ?_
          · rintro s9 w9 rfl hq9; go_wp2_with fail; exact up_no rfl h0 hq9 (fun w hq => ⟨rfl, hq⟩)
          rintro a74 s74 e w74 ⟨u74, rfl, rfl, hwf74⟩ HF75 hr; clear j0 j1 j2 j3 j4; clear HR; have HR := Lib.hid hr; clear hr; obtain ⟨t76, HT76⟩ := hidE (tokT c s74); (try simp only [NM, reduceIte, HT76.out, bt_n] at HR); obtain ⟨j0, j1, j2, j3, j4⟩ := HF75.b0.t5; go_wp2_with fail
          with_reducible refine HF75.bind HIexpr.out HB.out HR.out HO.out ?_ ?_
          · rintro s9 w9 rfl hq9; go_wp2_with fail; exact up_no rfl h0 hq9 (fun w hq => ⟨rfl, hq⟩)
          rintro a77 s77 e w77 ⟨rfl, hi77⟩ HF78 hr; unfold kidC; clear j0 j1 j2 j3 j4; clear HR; have HR := Lib.hid hr; clear hr; obtain ⟨t79, HT79⟩ := hidE (tokT c s77); (try simp only [NM, reduceIte, HT79.out, bt_n] at HR); obtain ⟨j0, j1, j2, j3, j4⟩ := HF78.b0.t5; go_wp2_with fail
          with_reducible refine HF78.bind (HWt.out 4 ⟨#[116, 104, 101, 110]⟩) HB.out HR.out HO.out ?_ ?_
          · rintro s9 w9 rfl hq9; go_wp2_with fail; exact up_no rfl h0 hq9 (fun w hq => ⟨rfl, hq⟩)
          rintro a80 s80 e w80 ⟨u80, rfl, rfl, hwf80⟩ HF81 hr; clear j0 j1 j2 j3 j4; clear HR; have HR := Lib.hid hr; clear hr; obtain ⟨t82, HT82⟩ := hidE (tokT c s80); (try simp only [NM, reduceIte, HT82.out, bt_n] at HR); obtain ⟨j0, j1, j2, j3, j4⟩ := HF81.b0.t5; go_wp2_with fail
          with_reducible refine HF81.bind HIexpr.out HB.out HR.out HO.out ?_ ?_
          · rintro s9 w9 rfl hq9; go_wp2_with fail; exact up_no rfl h0 hq9 (fun w hq => ⟨rfl, hq⟩)
          rintro a83 s83 e w83 ⟨rfl, hi83⟩ HF84 hr; unfold kidC; clear j0 j1 j2 j3 j4; clear HR; have HR := Lib.hid hr; clear hr; obtain ⟨t85, HT85⟩ := hidE (tokT c s83); (try simp only [NM, reduceIte, HT85.out, bt_n] at HR); obtain ⟨j0, j1, j2, j3, j4⟩ := HF84.b0.t5; go_wp2_with fail
          with_reducible refine HF84.bind (HWt.out 4 ⟨#[101, 108, 115, 101]⟩) HB.out HR.out HO.out ?_ ?_
          · rintro s9 w9 rfl hq9; go_wp2_with fail; exact up_no rfl h0 hq9 (fun w hq => ⟨rfl, hq⟩)
          rintro a86 s86 e w86 ⟨u86, rfl, rfl, hwf86⟩ HF87 hr; clear j0 j1 j2 j3 j4; clear HR; have HR := Lib.hid hr; clear hr; obtain ⟨t88, HT88⟩ := hidE (tokT c s86); (try simp only [NM, reduceIte, HT88.out, bt_n] at HR); obtain ⟨j0, j1, j2, j3, j4⟩ := HF87.b0.t5; go_upto_region 25 with (fail); refine wp_anyT ?_; refine wp_region_till [] (fun X => X.cell? ⟨b8, 0, none⟩ = some (.int .i64 t5.kind) ∧ X.cell? ⟨b8, 1, none⟩ = some (.string t5.text) ∧ X.cell? ⟨b8, 2, none⟩ = some (.int .i64 t5.n) ∧ X.cell? ⟨b8, 3, none⟩ = some (.int .i64 t5.line) ∧ X.cell? ⟨b8, 4, none⟩ = some (.int .i64 t5.col)) (by kernel_rfl) ?_ (fun hE => ?_)
          · exact ⟨j0, j1, j2, j3, j4⟩
          (have hS := hE (by kernel_rfl)); obtain ⟨w89, hw89⟩ : ∃ x, World.drew w86 = x := ⟨_, rfl⟩; rw [hw89] at hS ⊢; have HF90 := HF87.drew; rw [hw89] at HF90; clear hE hw89; clear j0 j1 j2 j3 j4; obtain ⟨j0, j1, j2, j3, j4⟩ := HF90.b0.t5; refine wpAnyT_pure (i := 0) (v := ?v25_0_91) rfl (by kernel_rfl) (fun _ _ _ h => h) (Or.inl ⟨by rfl, ?y25_0_91⟩) (fun _ => hS) ?_
          case y25_0_91 => (intro w hSw; go_simp; try with_reducible rfl)
          (try simp only [AP]); refine wpAnyT_take (i := 1) (v := ?v25_1_92) rfl (by kernel_rfl) (fun _ _ _ h => h) (Or.inl ⟨by rfl, ?y25_1_92⟩) hS ?_
          case y25_1_92 => (intro w hSw; (try dsimp only at hSw); go_simp; try with_reducible rfl)
          (try simp only [AP]); refine wpAnyT_pure (i := 2) (v := ?v25_2_93) rfl (by kernel_rfl) (fun _ _ _ h => h) (Or.inl ⟨by rfl, ?y25_2_93⟩) (fun _ => hS) ?_
          case y25_2_93 => (intro w hSw; go_simp; try with_reducible rfl)
          (try simp only [AP]); refine wpAnyT_pure (i := 3) (v := ?v25_3_94) rfl (by kernel_rfl) (fun _ _ _ h => h) (Or.inl ⟨by rfl, ?y25_3_94⟩) (fun _ => hS) ?_
          case y25_3_94 => (intro w hSw; go_simp; try with_reducible rfl)
          (try simp only [AP]); refine wpAnyT_pure (i := 4) (v := ?v25_4_95) rfl (by kernel_rfl) (fun _ _ _ h => h) (Or.inl ⟨by rfl, ?y25_4_95⟩) (fun _ => hS) ?_
          case y25_4_95 => (intro w hSw; go_simp; try with_reducible rfl)
          (try simp only [AP]); (refine wpAnyT_ready (rs := [5]) (by kernel_rfl) rfl ?_); (refine AllT.cons rfl (fun K hK => ?_) AllT.nil); go_simp
          with_reducible refine HF90.bind HIexpr.out HB.out HR.out HO.out ?_ ?_
          · rintro s9 w9 rfl hq9; go_wp2_with fail; exact AnyT.panic (fun _ => up_no rfl h0 hq9 (fun w hq => ⟨rfl, hq⟩))
          rintro a96 s96 e w96 ⟨rfl, hi96⟩ HF97 hr; unfold kidC; clear j0 j1 j2 j3 j4; clear HR; have HR := Lib.hid hr; clear hr; obtain ⟨t98, HT98⟩ := hidE (tokT c s96); (try simp only [NM, reduceIte, HT98.out, bt_n] at HR); obtain ⟨j0, j1, j2, j3, j4⟩ := HF97.b0.t5; go_wp2_with fail; refine hK.out _ _ (fun _ => ?_) (fun hE => ?_)
          · exact ⟨j0, j1, j2, j3, j4⟩
          clear hS; (have hS := hE (by kernel_rfl)); clear hK K hE; (try simp only [AP]); (refine wpAnyT_ready (rs := [6]) (by kernel_rfl) rfl ?_); (refine AllT.cons rfl (fun K hK => ?_) AllT.nil); go_simp; refine name_world ?_; intro w99 hw99; have HF100 := HF97.kid3 98 a77 a83 a96 hi77 hi83 hi96; rw [← hw99] at HF100; obtain ⟨b99, hb99⟩ : ∃ b, w96.heap.size = b := ⟨_, rfl⟩; rw [hb99] at HF100 ⊢; clear hw99 hb99; clear j0 j1 j2 j3 j4; obtain ⟨j0, j1, j2, j3, j4⟩ := HF100.b1.t5; refine hK.out _ _ (fun _ => ?_) (fun hE => ?_)
          · exact ⟨j0, j1, j2, j3, j4⟩
          clear hS; (have hS := hE (by kernel_rfl)); clear hK K hE; (try simp only [AP]); refine wpAnyT_pure (i := 7) (v := ?v25_7_101) rfl (by kernel_rfl) (fun _ _ _ h => h) (Or.inl ⟨by rfl, ?y25_7_101⟩) (fun _ => hS) ?_
          case y25_7_101 => (intro w hSw; go_simp; try with_reducible rfl)
          (try simp only [AP]); (refine wpAnyT_ready (rs := [8]) (by kernel_rfl) rfl ?_); (refine AllT.cons rfl (fun K hK => ?_) AllT.nil); go_simp; refine HF100.put HB.out t5 { kind := 26, kids := [a77, a83, a96] } 98 ((.slice (some ⟨b99, 0, none⟩) 3 3)) [.box 3 b8 59 (TC t5)] (.inr List.mem_cons_self) (by simp [Loc.key]) HR.out ?_ ?_
          · rintro s9 w9 rfl hq9; go_wp2_with fail; exact AnyT.panic (fun _ => up_no rfl h0 hq9 (fun w hq => ⟨rfl, hq⟩))
          intro i102 s102 w102 hi102 HF103 hr; unfold kidC; clear j0 j1 j2 j3 j4; clear HR; have HR := Lib.hid hr; clear hr; obtain ⟨t104, HT104⟩ := hidE (tokT c s102); (try simp only [NM, reduceIte, HT104.out, bt_n] at HR); obtain ⟨j0, j1, j2, j3, j4⟩ := HF103.b0.t5; go_wp2_with fail; refine hK.out _ _ (fun _ => ?_) (fun hE => ?_)
          · exact ⟨j0, j1, j2, j3, j4⟩
          clear hS; (have hS := hE (by kernel_rfl)); clear hK K hE; (try simp only [AP]); (refine wpAnyT_ready (rs := [9]) (by kernel_rfl) rfl ?_); (refine AllT.cons rfl (fun K hK => ?_) AllT.nil); go_simp; refine hK.out _ _ (fun _ => ?_) (fun hE => ?_)
          · exact ⟨j0, j1, j2, j3, j4⟩
          clear hS; (have hS := hE (by kernel_rfl)); clear hK K hE; (try simp only [AP]); (refine wpAnyT_done (by kernel_rfl) ?_ _); clear hS; refine AnyT.normal ?_; have hr := HR.out; clear HR; subst hr; go_wp2_with fail; exact up_ret rfl h0 HF103.out (fun w => results_tmp rfl _ _ _) (fun w hq => ⟨⟨rfl, hi102⟩, hq⟩)
      · simp only [NB] at nq15; (try simp only [NM, reduceIte, bt_n] at HR); go_wp2_with fail
        with_reducible refine HF9.bind HN.out HB.out HR.out HO.out ?_ ?_
        · rintro s9 w9 rfl hq9; go_wp2_with fail; exact up_no rfl h0 hq9 (fun w hq => ⟨rfl, hq⟩)
        rintro a105 s105 e w105 ⟨u105, rfl, rfl, hwf105⟩ HF106 hr; clear j0 j1 j2 j3 j4; clear HR; have HR := Lib.hid hr; clear hr; obtain ⟨t107, HT107⟩ := hidE (tokT c s105); (try simp only [NM, reduceIte, HT107.out, bt_n] at HR); obtain ⟨j0, j1, j2, j3, j4⟩ := HF106.b0.t5; go_wp2_with fail
        with_reducible refine HF106.bindR 5 (HBl.out 119 (fun _ _ => by kernel_rfl) _ HIdefn.out) HB.out HR.out HO.out ?_ ?_
        · rintro s9 w9 rfl hq9; go_wp2_with fail; exact up_no rfl h0 hq9 (fun w hq => ⟨rfl, hq⟩)
        intro l108 s108 v108 w108 hl108 HF109 hr; obtain ⟨A108, N108, cp108, hv108, hN108⟩ := own_form2 HF109.r0; subst hv108; clear j0 j1 j2 j3 j4; clear HR; have HR := Lib.hid hr; clear hr; obtain ⟨t110, HT110⟩ := hidE (tokT c s108); (try simp only [NM, reduceIte, HT110.out, bt_n] at HR); obtain ⟨j0, j1, j2, j3, j4⟩ := HF109.b1.t5; go_wp2_with fail
        with_reducible refine HF109.bind (HWt.out 4 ⟨#[105, 110]⟩) HB.out HR.out HO.out ?_ ?_
        · rintro s9 w9 rfl hq9; go_wp2_with fail; exact up_no rfl h0 hq9 (fun w hq => ⟨rfl, hq⟩)
        rintro a111 s111 e w111 ⟨u111, rfl, rfl, hwf111⟩ HF112 hr; clear j0 j1 j2 j3 j4; clear HR; have HR := Lib.hid hr; clear hr; obtain ⟨t113, HT113⟩ := hidE (tokT c s111); (try simp only [NM, reduceIte, HT113.out, bt_n] at HR); obtain ⟨j0, j1, j2, j3, j4⟩ := HF112.b1.t5; go_upto_region 18 with (fail); refine wp_anyT ?_; refine wp_region_till [] (fun X => X.cell? ⟨b8, 0, none⟩ = some (.int .i64 t5.kind) ∧ X.cell? ⟨b8, 1, none⟩ = some (.string t5.text) ∧ X.cell? ⟨b8, 2, none⟩ = some (.int .i64 t5.n) ∧ X.cell? ⟨b8, 3, none⟩ = some (.int .i64 t5.line) ∧ X.cell? ⟨b8, 4, none⟩ = some (.int .i64 t5.col)) (by kernel_rfl) ?_ (fun hE => ?_)
        · exact ⟨j0, j1, j2, j3, j4⟩
        (have hS := hE (by kernel_rfl)); obtain ⟨w114, hw114⟩ : ∃ x, World.drew w111 = x := ⟨_, rfl⟩; rw [hw114] at hS ⊢; have HF115 := HF112.drew; rw [hw114] at HF115; clear hE hw114; clear j0 j1 j2 j3 j4; obtain ⟨j0, j1, j2, j3, j4⟩ := HF115.b1.t5; refine wpAnyT_pure (i := 0) (v := ?v18_0_116) rfl (by kernel_rfl) (fun _ _ _ h => h) (Or.inl ⟨by rfl, ?y18_0_116⟩) (fun _ => hS) ?_
        case y18_0_116 => (intro w hSw; go_simp; try with_reducible rfl)
        (try simp only [AP]); refine wpAnyT_take (i := 1) (v := ?v18_1_117) rfl (by kernel_rfl) (fun _ _ _ h => h) (Or.inl ⟨by rfl, ?y18_1_117⟩) hS ?_
        case y18_1_117 => (intro w hSw; (try dsimp only at hSw); go_simp; try with_reducible rfl)
        (try simp only [AP]); refine wpAnyT_pure (i := 2) (v := ?v18_2_118) rfl (by kernel_rfl) (fun _ _ _ h => h) (Or.inl ⟨by rfl, ?y18_2_118⟩) (fun _ => hS) ?_
        case y18_2_118 => (intro w hSw; go_simp; try with_reducible rfl)
        (try simp only [AP]); refine wpAnyT_pure (i := 3) (v := ?v18_3_119) rfl (by kernel_rfl) (fun _ _ _ h => h) (Or.inl ⟨by rfl, ?y18_3_119⟩) (fun _ => hS) ?_
        case y18_3_119 => (intro w hSw; go_simp; try with_reducible rfl)
        (try simp only [AP]); (refine wpAnyT_ready (rs := [4]) (by kernel_rfl) rfl ?_); (refine AllT.cons rfl (fun K hK => ?_) AllT.nil); go_simp
        with_reducible refine HF115.bind HIexpr.out HB.out HR.out HO.out ?_ ?_
        · rintro s9 w9 rfl hq9; go_wp2_with fail; exact AnyT.panic (fun _ => up_no rfl h0 hq9 (fun w hq => ⟨rfl, hq⟩))
        rintro a120 s120 e w120 ⟨rfl, hi120⟩ HF121 hr; unfold kidC; clear j0 j1 j2 j3 j4; clear HR; have HR := Lib.hid hr; clear hr; obtain ⟨t122, HT122⟩ := hidE (tokT c s120); (try simp only [NM, reduceIte, HT122.out, bt_n] at HR); obtain ⟨j0, j1, j2, j3, j4⟩ := HF121.b1.t5; go_wp2_with fail; refine hK.out _ _ (fun _ => ?_) (fun hE => ?_)
        · exact ⟨j0, j1, j2, j3, j4⟩
        clear hS; (have hS := hE (by kernel_rfl)); clear hK K hE; (try simp only [AP]); (refine wpAnyT_ready (rs := [5]) (by kernel_rfl) rfl ?_); (refine AllT.cons rfl (fun K hK => ?_) AllT.nil); go_simp; refine name_world ?_; intro w123 hw123; have HF124 := HF121.kid1 98 a120 hi120; rw [← hw123] at HF124; obtain ⟨b123, hb123⟩ : ∃ b, w120.heap.size = b := ⟨_, rfl⟩; rw [hb123] at HF124 ⊢; clear hw123 hb123; clear j0 j1 j2 j3 j4; obtain ⟨j0, j1, j2, j3, j4⟩ := HF124.b2.t5; refine hK.out _ _ (fun _ => ?_) (fun hE => ?_)
        · exact ⟨j0, j1, j2, j3, j4⟩
        clear hS; (have hS := hE (by kernel_rfl)); clear hK K hE; (try simp only [AP]); (refine wpAnyT_ready (rs := [6]) (by kernel_rfl) rfl ?_); (refine AllT.cons rfl (fun K hK => ?_) AllT.nil); (refine HF124.st_app rfl 5 (List.mem_cons_of_mem _ List.mem_cons_self) _ _ rfl rfl List.mem_cons_self hi120 rfl (by (try simp only [List.length_append, List.length_nil, List.length_cons]); omega) (L' := [.box 3 b8 59 (TC t5)]) (by simp [Loc.key]) ?_); intro v125 w125 HF126; obtain ⟨A125, N125, cp125, hv125, hN125⟩ := own_form2 HF126.r0; subst hv125; clear j0 j1 j2 j3 j4; obtain ⟨j0, j1, j2, j3, j4⟩ := HF126.b1.t5; refine hK.out _ _ (fun _ => ?_) (fun hE => ?_)
        · exact ⟨j0, j1, j2, j3, j4⟩
        clear hS; (have hS := hE (by kernel_rfl)); clear hK K hE; (try simp only [AP]); refine wpAnyT_pure (i := 7) (v := ?v18_7_127) rfl (by kernel_rfl) (fun _ _ _ h => h) (Or.inl ⟨by rfl, ?y18_7_127⟩) (fun _ => hS) ?_
        case y18_7_127 => (intro w hSw; go_simp; try with_reducible rfl)
        (try simp only [AP]); (refine wpAnyT_ready (rs := [8]) (by kernel_rfl) rfl ?_); (refine AllT.cons rfl (fun K hK => ?_) AllT.nil); go_simp; refine HF126.put HB.out t5 { kind := 25, kids := (l108 ++ [a120]) } 5 ((.slice A125 N125 cp125)) [.box 3 b8 59 (TC t5)] (.inr List.mem_cons_self) (by simp [Loc.key]) HR.out ?_ ?_
        · rintro s9 w9 rfl hq9; go_wp2_with fail; exact AnyT.panic (fun _ => up_no rfl h0 hq9 (fun w hq => ⟨rfl, hq⟩))
        intro i128 s128 w128 hi128 HF129 hr; unfold kidC; clear j0 j1 j2 j3 j4; clear HR; have HR := Lib.hid hr; clear hr; obtain ⟨t130, HT130⟩ := hidE (tokT c s128); (try simp only [NM, reduceIte, HT130.out, bt_n] at HR); obtain ⟨j0, j1, j2, j3, j4⟩ := HF129.b0.t5; go_wp2_with fail; refine hK.out _ _ (fun _ => ?_) (fun hE => ?_)
        · exact ⟨j0, j1, j2, j3, j4⟩
        clear hS; (have hS := hE (by kernel_rfl)); clear hK K hE; (try simp only [AP]); (refine wpAnyT_ready (rs := [9]) (by kernel_rfl) rfl ?_); (refine AllT.cons rfl (fun K hK => ?_) AllT.nil); go_simp; refine hK.out _ _ (fun _ => ?_) (fun hE => ?_)
        · exact ⟨j0, j1, j2, j3, j4⟩
        clear hS; (have hS := hE (by kernel_rfl)); clear hK K hE; (try simp only [AP]); (refine wpAnyT_done (by kernel_rfl) ?_ _); clear hS; refine AnyT.normal ?_; have hr := HR.out; clear HR; subst hr; go_wp2_with fail; exact up_ret rfl h0 HF129.out (fun w => results_tmp rfl _ _ _) (fun w hq => ⟨⟨rfl, hi128⟩, hq⟩)
    · simp only [NB] at nq14; (try simp only [NM, reduceIte, bt_n] at HR); go_wp2_with fail
      with_reducible refine HF9.bind HN.out HB.out HR.out HO.out ?_ ?_
      · rintro s9 w9 rfl hq9; go_wp2_with fail; exact up_no rfl h0 hq9 (fun w hq => ⟨rfl, hq⟩)
      rintro a131 s131 e w131 ⟨u131, rfl, rfl, hwf131⟩ HF132 hr; clear j0 j1 j2 j3 j4; clear HR; have HR := Lib.hid hr; clear hr; obtain ⟨t133, HT133⟩ := hidE (tokT c s131); (try simp only [NM, reduceIte, HT133.out, bt_n] at HR); obtain ⟨j0, j1, j2, j3, j4⟩ := HF132.b0.t5; go_wp2_with fail
      with_reducible refine HF132.bind HPm.out HB.out HR.out HO.out ?_ ?_
      · rintro s9 w9 rfl hq9; go_wp2_with fail; exact up_no rfl h0 hq9 (fun w hq => ⟨rfl, hq⟩)
      rintro a134 s134 e w134 ⟨rfl, hi134⟩ HF135 hr; unfold kidC; clear j0 j1 j2 j3 j4; clear HR; have HR := Lib.hid hr; clear hr; obtain ⟨t136, HT136⟩ := hidE (tokT c s134); (try simp only [NM, reduceIte, HT136.out, bt_n] at HR); obtain ⟨j0, j1, j2, j3, j4⟩ := HF135.b0.t5; go_wp2_with fail; obtain ⟨b137, hb137⟩ : ∃ b, w134.heap.size = b := ⟨_, rfl⟩; obtain ⟨w137, hw137⟩ : ∃ w, w134.alloc (.cells #[.int .i64 (a134 : Int)] 3) = w := ⟨_, rfl⟩; have HF138 := HF135.kid1 4 a134 hi134; rw [hb137, hw137] at HF138; rw [hw137, hb137]; clear hw137 hb137; clear j0 j1 j2 j3 j4; obtain ⟨j0, j1, j2, j3, j4⟩ := HF138.b1.t5; have hr := HR.out; clear HR; obtain ⟨F139, g139, hFF139, hGG139, hr⟩ := split_loop hr; have HFF139 := Lib.hid hFF139; have HGG139 := Lib.hid hGG139; have HR := Lib.hid hr; clear hr hFF139 hGG139; (have HF140 := HF138.sub (L' := [.row 4 (.slice (some ⟨b137, 0, none⟩) 1 1) [a134], .box 3 b8 59 (TC t5)]) (by simp)); clear HF138; clear j0 j1 j2 j3 j4; go_wp2_with fail; go_loopg [4] n (fun gk x4 wr => ∃ (s5 : Ps) (l5 : List Nat), Fr c { E with lo := E.lo + 1 } 0 [.row 4 x4 l5, .box 3 b8 59 (TC t5)] s5 wr ∧ l5.length + gk ≤ 1000001 ∧ Hid ((loop F139 gk l5 >>= g139) s5 = r))
      case atStart => exact ⟨s134, [a134], HF140.out, by (try simp only [List.length_nil, List.length_cons]); omega, HR.out⟩
      case round =>
        obtain ⟨w139, rfl⟩ : ∃ w, w = wr := ⟨_, rfl⟩; clear HR HF140; obtain ⟨s139, l139, HF141, hl139, hr⟩ := hrel; obtain ⟨A139, cp139, hv139, _⟩ := own_formP HF141.r0; subst hv139; obtain _ | m139 := gk
        · exact absurd (loop_zero hr.out) HO.out
        have HR := Lib.hid (loop_step hr.out HFF139.out); clear hr; obtain ⟨t142, HT142⟩ := hidE (tokT c s139); (try simp only [NM, reduceIte, HT142.out, bt_n] at HR); obtain ⟨j0, j1, j2, j3, j4⟩ := HF141.b1.t5; obtain ⟨q143, hq143⟩ : ∃ q, isB t142.bt 4 ⟨#[45, 62]⟩ = q := ⟨_, rfl⟩; have HI143 := Lib.hid (HF141.iskey ⟨#[45, 62]⟩); rw [HT142.out, hq143] at HI143; (try simp only [NM, reduceIte, hq143, bt_n] at HR); clear hq143; go_wp2_with fail
        with_reducible refine HI143.out.mono ?_
        rintro e w143 ⟨rfl, HF144⟩; clear j0 j1 j2 j3 j4; obtain ⟨j0, j1, j2, j3, j4⟩ := HF144.b1.t5; cases q143
        · (try simp only [NM, reduceIte, bt_n] at HR); go_wp2_with fail
          with_reducible refine HF144.bind HPm.out HB.out HR.out HO.out ?_ ?_
          · rintro s9 w9 rfl hq9; go_wp2_with fail; exact up_no rfl h0 hq9 (fun w hq => ⟨rfl, hq⟩)
          rintro a145 s145 e w145 ⟨rfl, hi145⟩ HF146 hr; unfold kidC; clear j0 j1 j2 j3 j4; clear HR; have HR := Lib.hid hr; clear hr; obtain ⟨t147, HT147⟩ := hidE (tokT c s145); (try simp only [NM, reduceIte, HT147.out, bt_n] at HR); obtain ⟨j0, j1, j2, j3, j4⟩ := HF146.b1.t5; (go_wp2_with (at_builtin; (refine (HF146.kid1 99 a145 hi145).wpl_app rfl 4 (List.mem_cons_of_mem _ List.mem_cons_self) _ _ rfl rfl List.mem_cons_self hi145 rfl (by (try simp only [List.length_append, List.length_nil, List.length_cons]); omega) (L' := [.box 3 b8 59 (TC t5)]) (by simp [Loc.key]) ?_); intro v148 w148 HF149)); obtain ⟨A148, N148, cp148, hv148, hN148⟩ := own_form2 HF149.r0; subst hv148; clear j0 j1 j2 j3 j4; obtain ⟨j0, j1, j2, j3, j4⟩ := HF149.b1.t5; go_wp2_with fail; go_roundg m139
          case measure => omega
          case rel => exact ⟨s145, (l139 ++ [a145]), HF149.sub (L' := [.row 4 (.slice A148 N148 cp148) (l139 ++ [a145]), .box 3 b8 59 (TC t5)]) (by simp), by (try simp only [List.length_append, List.length_nil, List.length_cons]); omega, HR.out⟩
        · (try simp only [NM, reduceIte, bt_n] at HR); (try simp only [NM, reduceIte, HGG139.out, bt_n] at HR); (try simp only [NM, reduceIte, HT142.out, bt_n] at HR); go_wp2_with fail
          with_reducible refine HF144.bind HN.out HB.out HR.out HO.out ?_ ?_
          · rintro s9 w9 rfl hq9; go_wp2_with fail; exact up_no rfl h0 hq9 (fun w hq => ⟨rfl, hq⟩)
          rintro a150 s150 e w150 ⟨u150, rfl, rfl, hwf150⟩ HF151 hr; clear j0 j1 j2 j3 j4; clear HR; have HR := Lib.hid hr; clear hr; obtain ⟨t152, HT152⟩ := hidE (tokT c s150); (try simp only [NM, reduceIte, HT152.out, bt_n] at HR); obtain ⟨j0, j1, j2, j3, j4⟩ := HF151.b1.t5; go_upto_region 13 with (fail); refine wp_anyT ?_; refine wp_region_till [] (fun X => X.cell? ⟨b8, 0, none⟩ = some (.int .i64 t5.kind) ∧ X.cell? ⟨b8, 1, none⟩ = some (.string t5.text) ∧ X.cell? ⟨b8, 2, none⟩ = some (.int .i64 t5.n) ∧ X.cell? ⟨b8, 3, none⟩ = some (.int .i64 t5.line) ∧ X.cell? ⟨b8, 4, none⟩ = some (.int .i64 t5.col)) (by kernel_rfl) ?_ (fun hE => ?_)
          · exact ⟨j0, j1, j2, j3, j4⟩
          (have hS := hE (by kernel_rfl)); obtain ⟨w153, hw153⟩ : ∃ x, World.drew w150 = x := ⟨_, rfl⟩; rw [hw153] at hS ⊢; have HF154 := HF151.drew; rw [hw153] at HF154; clear hE hw153; clear j0 j1 j2 j3 j4; obtain ⟨j0, j1, j2, j3, j4⟩ := HF154.b1.t5; refine wpAnyT_pure (i := 0) (v := ?v13_0_155) rfl (by kernel_rfl) (fun _ _ _ h => h) (Or.inl ⟨by rfl, ?y13_0_155⟩) (fun _ => hS) ?_
          case y13_0_155 => (intro w hSw; go_simp; try with_reducible rfl)
          (try simp only [AP]); refine wpAnyT_take (i := 1) (v := ?v13_1_156) rfl (by kernel_rfl) (fun _ _ _ h => h) (Or.inl ⟨by rfl, ?y13_1_156⟩) hS ?_
          case y13_1_156 => (intro w hSw; (try dsimp only at hSw); go_simp; try with_reducible rfl)
          (try simp only [AP]); refine wpAnyT_pure (i := 2) (v := ?v13_2_157) rfl (by kernel_rfl) (fun _ _ _ h => h) (Or.inl ⟨by rfl, ?y13_2_157⟩) (fun _ => hS) ?_
          case y13_2_157 => (intro w hSw; go_simp; try with_reducible rfl)
          (try simp only [AP]); refine wpAnyT_pure (i := 3) (v := ?v13_3_158) rfl (by kernel_rfl) (fun _ _ _ h => h) (Or.inl ⟨by rfl, ?y13_3_158⟩) (fun _ => hS) ?_
          case y13_3_158 => (intro w hSw; go_simp; try with_reducible rfl)
          (try simp only [AP]); (refine wpAnyT_ready (rs := [4]) (by kernel_rfl) rfl ?_); (refine AllT.cons rfl (fun K hK => ?_) AllT.nil); go_simp
          with_reducible refine HF154.bind HIexpr.out HB.out HR.out HO.out ?_ ?_
          · rintro s9 w9 rfl hq9; go_wp2_with fail; exact AnyT.panic (fun _ => up_no rfl h0 hq9 (fun w hq => ⟨rfl, hq⟩))
          rintro a159 s159 e w159 ⟨rfl, hi159⟩ HF160 hr; unfold kidC; clear j0 j1 j2 j3 j4; clear HR; have HR := Lib.hid hr; clear hr; obtain ⟨t161, HT161⟩ := hidE (tokT c s159); (try simp only [NM, reduceIte, HT161.out, bt_n] at HR); obtain ⟨j0, j1, j2, j3, j4⟩ := HF160.b1.t5; go_wp2_with fail; refine hK.out _ _ (fun _ => ?_) (fun hE => ?_)
          · exact ⟨j0, j1, j2, j3, j4⟩
          clear hS; (have hS := hE (by kernel_rfl)); clear hK K hE; (try simp only [AP]); (refine wpAnyT_ready (rs := [5]) (by kernel_rfl) rfl ?_); (refine AllT.cons rfl (fun K hK => ?_) AllT.nil); go_simp; refine name_world ?_; intro w162 hw162; have HF163 := HF160.kid1 98 a159 hi159; rw [← hw162] at HF163; obtain ⟨b162, hb162⟩ : ∃ b, w159.heap.size = b := ⟨_, rfl⟩; rw [hb162] at HF163 ⊢; clear hw162 hb162; clear j0 j1 j2 j3 j4; obtain ⟨j0, j1, j2, j3, j4⟩ := HF163.b2.t5; refine hK.out _ _ (fun _ => ?_) (fun hE => ?_)
          · exact ⟨j0, j1, j2, j3, j4⟩
          clear hS; (have hS := hE (by kernel_rfl)); clear hK K hE; (try simp only [AP]); (refine wpAnyT_ready (rs := [6]) (by kernel_rfl) rfl ?_); (refine AllT.cons rfl (fun K hK => ?_) AllT.nil); (refine HF163.st_app rfl 4 (List.mem_cons_of_mem _ List.mem_cons_self) _ _ rfl rfl List.mem_cons_self hi159 rfl (by (try simp only [List.length_append, List.length_nil, List.length_cons]); omega) (L' := [.box 3 b8 59 (TC t5)]) (by simp [Loc.key]) ?_); intro v164 w164 HF165; obtain ⟨A164, N164, cp164, hv164, hN164⟩ := own_form2 HF165.r0; subst hv164; clear j0 j1 j2 j3 j4; obtain ⟨j0, j1, j2, j3, j4⟩ := HF165.b1.t5; refine hK.out _ _ (fun _ => ?_) (fun hE => ?_)
          · exact ⟨j0, j1, j2, j3, j4⟩
          clear hS; (have hS := hE (by kernel_rfl)); clear hK K hE; (try simp only [AP]); refine wpAnyT_pure (i := 7) (v := ?v13_7_166) rfl (by kernel_rfl) (fun _ _ _ h => h) (Or.inl ⟨by rfl, ?y13_7_166⟩) (fun _ => hS) ?_
          case y13_7_166 => (intro w hSw; go_simp; try with_reducible rfl)
          (try simp only [AP]); (refine wpAnyT_ready (rs := [8]) (by kernel_rfl) rfl ?_); (refine AllT.cons rfl (fun K hK => ?_) AllT.nil); go_simp; refine HF165.put HB.out t5 { kind := 22, kids := (l139 ++ [a159]) } 4 ((.slice A164 N164 cp164)) [.box 3 b8 59 (TC t5)] (.inr List.mem_cons_self) (by simp [Loc.key]) HR.out ?_ ?_
          · rintro s9 w9 rfl hq9; go_wp2_with fail; exact AnyT.panic (fun _ => up_no rfl h0 hq9 (fun w hq => ⟨rfl, hq⟩))
          intro i167 s167 w167 hi167 HF168 hr; unfold kidC; clear j0 j1 j2 j3 j4; clear HR; have HR := Lib.hid hr; clear hr; obtain ⟨t169, HT169⟩ := hidE (tokT c s167); (try simp only [NM, reduceIte, HT169.out, bt_n] at HR); obtain ⟨j0, j1, j2, j3, j4⟩ := HF168.b0.t5; go_wp2_with fail; refine hK.out _ _ (fun _ => ?_) (fun hE => ?_)
          · exact ⟨j0, j1, j2, j3, j4⟩
          clear hS; (have hS := hE (by kernel_rfl)); clear hK K hE; (try simp only [AP]); (refine wpAnyT_ready (rs := [9]) (by kernel_rfl) rfl ?_); (refine AllT.cons rfl (fun K hK => ?_) AllT.nil); go_simp; refine hK.out _ _ (fun _ => ?_) (fun hE => ?_)
          · exact ⟨j0, j1, j2, j3, j4⟩
          clear hS; (have hS := hE (by kernel_rfl)); clear hK K hE; (try simp only [AP]); (refine wpAnyT_done (by kernel_rfl) ?_ _); clear hS; refine AnyT.normal ?_; have hr := HR.out; clear HR; subst hr; go_wp2_with fail; exact up_ret rfl h0 HF168.out (fun w => results_tmp rfl _ _ _) (fun w hq => ⟨⟨rfl, hi167⟩, hq⟩)
end
end Go.Proofs.YtcjoapmodaioiaaGreatDoor
