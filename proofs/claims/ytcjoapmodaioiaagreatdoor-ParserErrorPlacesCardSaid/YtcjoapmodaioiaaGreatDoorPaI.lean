/- The parser's expressions, walked (1). -/
import Derived.Test.YtcjoapmodaioiaaGreatDoorMPaH
set_option linter.unusedVariables false
set_option linter.unusedSimpArgs false
namespace Go.Proofs.YtcjoapmodaioiaaGreatDoor
open Go.RowKit Go.Shelf Pa
set_option maxRecDepth 100000
set_option maxHeartbeats 8000000

section
variable {c : Cx}
structure ExAt (c : Cx) (n : Nat) : Prop where
  expr : Meth c 156 #[.pointer (some ⟨c.bp, 0, none⟩)] (exprs (c.l.map Tok.bt) n .expr) vNum
  ops : Meth c 162 #[.pointer (some ⟨c.bp, 0, none⟩)] (exprs (c.l.map Tok.bt) n .ops) vNum
  apply : Meth c 166 #[.pointer (some ⟨c.bp, 0, none⟩)] (exprs (c.l.map Tok.bt) n .apply) vNum
  post : Meth c 168 #[.pointer (some ⟨c.bp, 0, none⟩)] (exprs (c.l.map Tok.bt) n .post) vNum
  atom : Meth c 171 #[.pointer (some ⟨c.bp, 0, none⟩)] (exprs (c.l.map Tok.bt) n .atom) vNum
  record : Meth c 172 #[.pointer (some ⟨c.bp, 0, none⟩)] (exprs (c.l.map Tok.bt) n .record) vNum
  changed : ∀ t : Tok, Meth c 173 #[.pointer (some ⟨c.bp, 0, none⟩), .agg #[.int .i64 t.kind, .string t.text, .int .i64 t.n, .int .i64 t.line, .int .i64 t.col]] (exprs (c.l.map Tok.bt) n .changed) vNum
  alt : Meth c 163 #[.pointer (some ⟨c.bp, 0, none⟩)] (exprs (c.l.map Tok.bt) n .alt) vNum
  clause : Meth c 164 #[.pointer (some ⟨c.bp, 0, none⟩)] (exprs (c.l.map Tok.bt) n .clause) vNum
  defn : Meth c 119 #[.pointer (some ⟨c.bp, 0, none⟩)] (exprs (c.l.map Tok.bt) n .defn) vNum
  defOf : ∀ (t : Tok) (name : ByteArray), Meth c 142 #[.pointer (some ⟨c.bp, 0, none⟩), .agg #[.int .i64 t.kind, .string t.text, .int .i64 t.n, .int .i64 t.line, .int .i64 t.col], .string name] (exprs (c.l.map Tok.bt) n (.defOf name)) vNum
theorem changed_step (hS : TokSt c.l) (n : Nat) (hn : n ≤ 1000000) (IH : ExAt c n) (t : Tok) : Meth c 173 #[.pointer (some ⟨c.bp, 0, none⟩), .agg #[.int .i64 t.kind, .string t.text, .int .i64 t.n, .int .i64 t.line, .int .i64 t.col]] (exprs (c.l.map Tok.bt) (n + 1) .changed) vNum := by
  (refine Meth.mk fun E s0 r W HF1 hb hr ho => ?_); have HN := Lib.hid (next_any hS); (have HK := Lib.hid (fun k => kind_any hS k)); (have HWt := Lib.hid (fun k x => want_any hS k x)); have HPm := Lib.hid (param_any hS); have HIexpr := Lib.hid IH.expr; simp only [Pa.exprs] at hr; have HB := Lib.hid hb; have HO := Lib.hid ho; clear hb ho; have HR := Lib.hid hr; clear hr; obtain ⟨t2, HT2⟩ := hidE (tokT c s0); (try simp only [NM, reduceIte, HT2.out, bt_n] at HR); have fld0 := fldT0; have fld1 := fldT1; have fld2 := fldT2; go_enter Tryz.func173, Tryz.ntmps173; go_upto_region 1 with (fail); obtain ⟨b3, w3, hb3, hw3, HF4⟩ := HF1.boxT 3 t; rw [hw3, hb3]; clear hw3 hb3; obtain ⟨j0, j1, j2, j3, j4⟩ := HF4.b0.t5; go_wp2_with fail
  with_reducible refine HF4.bind HIexpr.out HB.out HR.out HO.out ?_ ?_
  · rintro s9 w9 rfl hq9; go_wp2_with fail; exact ⟨rfl, rfl, hq9.sub (by simp)⟩
  rintro a5 s5 e w5 ⟨rfl, hi5⟩ HF6 hr; unfold kidC; clear j0 j1 j2 j3 j4; clear HR; have HR := Lib.hid hr; clear hr; obtain ⟨t7, HT7⟩ := hidE (tokT c s5); (try simp only [NM, reduceIte, HT7.out, bt_n] at HR); obtain ⟨j0, j1, j2, j3, j4⟩ := HF6.b0.t5; go_wp2_with fail
  with_reducible refine HF6.bind (HWt.out 4 ⟨#[124]⟩) HB.out HR.out HO.out ?_ ?_
  · rintro s9 w9 rfl hq9; go_wp2_with fail; exact ⟨rfl, rfl, hq9.sub (by simp)⟩
  rintro a8 s8 e w8 ⟨u8, rfl, rfl, hwf8⟩ HF9 hr; clear j0 j1 j2 j3 j4; clear HR; have HR := Lib.hid hr; clear hr; obtain ⟨t10, HT10⟩ := hidE (tokT c s8); (try simp only [NM, reduceIte, HT10.out, bt_n] at HR); obtain ⟨j0, j1, j2, j3, j4⟩ := HF9.b0.t5; go_wp2_with fail
  with_reducible refine HF9.bind (HK.out 0) HB.out HR.out HO.out ?_ ?_
  · rintro s9 w9 rfl hq9; go_wp2_with fail; exact ⟨rfl, rfl, hq9.sub (by simp)⟩
  rintro a11 s11 e w11 ⟨u11, rfl, rfl, hwf11⟩ HF12 hr; clear j0 j1 j2 j3 j4; clear HR; have HR := Lib.hid hr; clear hr; obtain ⟨t13, HT13⟩ := hidE (tokT c s11); (try simp only [NM, reduceIte, HT13.out, bt_n] at HR); obtain ⟨j0, j1, j2, j3, j4⟩ := HF12.b0.t5; go_upto_region 4 with (fail); obtain ⟨b14, w14, hb14, hw14, HF15⟩ := HF12.boxT 6 u11; rw [hw14, hb14]; clear hw14 hb14; clear j0 j1 j2 j3 j4; obtain ⟨j5, j6, j7, j8, j9⟩ := HF15.b0.t5; obtain ⟨j0, j1, j2, j3, j4⟩ := HF15.b1.t5; go_wp2_with fail
  with_reducible refine HF15.bind (HWt.out 4 ⟨#[61]⟩) HB.out HR.out HO.out ?_ ?_
  · rintro s9 w9 rfl hq9; go_wp2_with fail; exact ⟨rfl, rfl, hq9.sub (by simp)⟩
  rintro a16 s16 e w16 ⟨u16, rfl, rfl, hwf16⟩ HF17 hr; clear j5 j6 j7 j8 j9 j0 j1 j2 j3 j4; clear HR; have HR := Lib.hid hr; clear hr; obtain ⟨t18, HT18⟩ := hidE (tokT c s16); (try simp only [NM, reduceIte, HT18.out, bt_n] at HR); obtain ⟨j5, j6, j7, j8, j9⟩ := HF17.b0.t5; obtain ⟨j0, j1, j2, j3, j4⟩ := HF17.b1.t5; go_wp2_with fail
  with_reducible refine HF17.bind HIexpr.out HB.out HR.out HO.out ?_ ?_
  · rintro s9 w9 rfl hq9; go_wp2_with fail; exact ⟨rfl, rfl, hq9.sub (by simp)⟩
  rintro a19 s19 e w19 ⟨rfl, hi19⟩ HF20 hr; unfold kidC; clear j5 j6 j7 j8 j9 j0 j1 j2 j3 j4; clear HR; have HR := Lib.hid hr; clear hr; obtain ⟨t21, HT21⟩ := hidE (tokT c s19); (try simp only [NM, reduceIte, HT21.out, bt_n] at HR); obtain ⟨j5, j6, j7, j8, j9⟩ := HF20.b0.t5; obtain ⟨j0, j1, j2, j3, j4⟩ := HF20.b1.t5; go_wp2_with fail
  with_reducible refine HF20.bind (HWt.out 5 ⟨#[125]⟩) HB.out HR.out HO.out ?_ ?_
  · rintro s9 w9 rfl hq9; go_wp2_with fail; exact ⟨rfl, rfl, hq9.sub (by simp)⟩
  rintro a22 s22 e w22 ⟨u22, rfl, rfl, hwf22⟩ HF23 hr; clear j5 j6 j7 j8 j9 j0 j1 j2 j3 j4; clear HR; have HR := Lib.hid hr; clear hr; obtain ⟨t24, HT24⟩ := hidE (tokT c s22); (try simp only [NM, reduceIte, HT24.out, bt_n] at HR); obtain ⟨j5, j6, j7, j8, j9⟩ := HF23.b0.t5; obtain ⟨j0, j1, j2, j3, j4⟩ := HF23.b1.t5; go_wp2_with fail; obtain ⟨b25, hb25⟩ : ∃ b, w22.heap.size = b := ⟨_, rfl⟩; obtain ⟨w25, hw25⟩ : ∃ w, w22.alloc (.cells #[.int .i64 (a5 : Int), .int .i64 (a19 : Int)] 3) = w := ⟨_, rfl⟩; have HF26 := HF23.kid2 97 a5 a19 hi5 hi19; rw [hb25, hw25] at HF26; rw [hw25, hb25]; clear hw25 hb25; clear j5 j6 j7 j8 j9 j0 j1 j2 j3 j4; obtain ⟨j5, j6, j7, j8, j9⟩ := HF26.b1.t5; obtain ⟨j0, j1, j2, j3, j4⟩ := HF26.b2.t5; refine HF26.putT HB.out t { kind := 31, text := u11.text, kids := [a5, a19] } 97 ((.slice (some ⟨b25, 0, none⟩) 2 2)) [.box 6 b14 59 (TC u11), .box 3 b3 59 (TC t)] (.inr List.mem_cons_self) (by simp [Loc.key]) HR.out ?_ ?_
  · rintro s9 w9 rfl hq9; go_wp2_with fail; exact ⟨rfl, rfl, hq9.sub (by simp)⟩
  intro i27 s27 w27 hi27 HF28 hr; unfold kidC; clear j5 j6 j7 j8 j9 j0 j1 j2 j3 j4; clear HR; have HR := Lib.hid hr; clear hr; obtain ⟨j5, j6, j7, j8, j9⟩ := HF28.b0.t5; obtain ⟨j0, j1, j2, j3, j4⟩ := HF28.b1.t5; have hr := HR.out; clear HR; subst hr; go_wp2_with fail; go_ret; exact ⟨⟨rfl, hi27⟩, HF28.sub (by simp)⟩
theorem alt_step (hS : TokSt c.l) (n : Nat) (hn : n ≤ 1000000) (IH : ExAt c n) : Meth c 163 #[.pointer (some ⟨c.bp, 0, none⟩)] (exprs (c.l.map Tok.bt) (n + 1) .alt) vNum := by
  (refine Meth.mk fun E s0 r W HF1 hb hr ho => ?_); have HN := Lib.hid (next_any hS); (have HK := Lib.hid (fun k => kind_any hS k)); (have HWt := Lib.hid (fun k x => want_any hS k x)); have HPm := Lib.hid (param_any hS); have HIexpr := Lib.hid IH.expr; simp only [Pa.exprs] at hr; have HPt := Lib.hid (pats_any hS n hn).1; have HB := Lib.hid hb; have HO := Lib.hid ho; clear hb ho; have HR := Lib.hid hr; clear hr; obtain ⟨t2, HT2⟩ := hidE (tokT c s0); (try simp only [NM, reduceIte, HT2.out, bt_n] at HR); have fld0 := fldT0; have fld1 := fldT1; have fld2 := fldT2; go_enter Tryz.func163, Tryz.ntmps163; go_wp2_with fail
  with_reducible refine (HF1.tok).mono ?_
  rintro e w3 ⟨rfl, HF4⟩; rw [HT2.out]; go_upto_region 2 with (fail); obtain ⟨b5, w5, hb5, hw5, HF6⟩ := HF4.boxT 3 t2; rw [hw5, hb5]; clear hw5 hb5; obtain ⟨j0, j1, j2, j3, j4⟩ := HF6.b0.t5; go_wp2_with fail
  with_reducible refine HF6.bind HPt.out HB.out HR.out HO.out ?_ ?_
  · rintro s9 w9 rfl hq9; go_wp2_with fail; exact ⟨rfl, rfl, hq9.sub (by simp)⟩
  rintro a7 s7 e w7 ⟨rfl, hi7⟩ HF8 hr; unfold kidC; clear j0 j1 j2 j3 j4; clear HR; have HR := Lib.hid hr; clear hr; obtain ⟨t9, HT9⟩ := hidE (tokT c s7); (try simp only [NM, reduceIte, HT9.out, bt_n] at HR); obtain ⟨j0, j1, j2, j3, j4⟩ := HF8.b0.t5; go_wp2_with fail
  with_reducible refine HF8.bind (HWt.out 4 ⟨#[45, 62]⟩) HB.out HR.out HO.out ?_ ?_
  · rintro s9 w9 rfl hq9; go_wp2_with fail; exact ⟨rfl, rfl, hq9.sub (by simp)⟩
  rintro a10 s10 e w10 ⟨u10, rfl, rfl, hwf10⟩ HF11 hr; clear j0 j1 j2 j3 j4; clear HR; have HR := Lib.hid hr; clear hr; obtain ⟨t12, HT12⟩ := hidE (tokT c s10); (try simp only [NM, reduceIte, HT12.out, bt_n] at HR); obtain ⟨j0, j1, j2, j3, j4⟩ := HF11.b0.t5; go_upto_region 4 with (fail); refine wp_region_till [] (fun X => X.cell? ⟨b5, 0, none⟩ = some (.int .i64 t2.kind) ∧ X.cell? ⟨b5, 1, none⟩ = some (.string t2.text) ∧ X.cell? ⟨b5, 2, none⟩ = some (.int .i64 t2.n) ∧ X.cell? ⟨b5, 3, none⟩ = some (.int .i64 t2.line) ∧ X.cell? ⟨b5, 4, none⟩ = some (.int .i64 t2.col)) (by kernel_rfl) ?_ (fun hE => ?_)
  · exact ⟨j0, j1, j2, j3, j4⟩
  (have hS := hE (by kernel_rfl)); obtain ⟨w13, hw13⟩ : ∃ x, World.drew w10 = x := ⟨_, rfl⟩; rw [hw13] at hS ⊢; have HF14 := HF11.drew; rw [hw13] at HF14; clear hE hw13; clear j0 j1 j2 j3 j4; obtain ⟨j0, j1, j2, j3, j4⟩ := HF14.b0.t5; refine wpAnyT_pure (i := 0) (v := ?v4_0_15) rfl (by kernel_rfl) (fun _ _ _ h => h) (Or.inl ⟨by rfl, ?y4_0_15⟩) (fun _ => hS) ?_
  case y4_0_15 => (intro w hSw; go_simp; try with_reducible rfl)
  (try simp only [AP]); refine wpAnyT_take (i := 1) (v := ?v4_1_16) rfl (by kernel_rfl) (fun _ _ _ h => h) (Or.inl ⟨by rfl, ?y4_1_16⟩) hS ?_
  case y4_1_16 => (intro w hSw; (try dsimp only at hSw); go_simp; try with_reducible rfl)
  (try simp only [AP]); refine wpAnyT_pure (i := 2) (v := ?v4_2_17) rfl (by kernel_rfl) (fun _ _ _ h => h) (Or.inl ⟨by rfl, ?y4_2_17⟩) (fun _ => hS) ?_
  case y4_2_17 => (intro w hSw; go_simp; try with_reducible rfl)
  (try simp only [AP]); refine wpAnyT_pure (i := 3) (v := ?v4_3_18) rfl (by kernel_rfl) (fun _ _ _ h => h) (Or.inl ⟨by rfl, ?y4_3_18⟩) (fun _ => hS) ?_
  case y4_3_18 => (intro w hSw; go_simp; try with_reducible rfl)
  (try simp only [AP]); (refine wpAnyT_ready (rs := [4]) (by kernel_rfl) rfl ?_); (refine AllT.cons rfl (fun K hK => ?_) AllT.nil); go_simp
  with_reducible refine HF14.bind HIexpr.out HB.out HR.out HO.out ?_ ?_
  · rintro s9 w9 rfl hq9; go_wp2_with fail; exact ⟨rfl, rfl, hq9.sub (by simp)⟩
  rintro a19 s19 e w19 ⟨rfl, hi19⟩ HF20 hr; unfold kidC; clear j0 j1 j2 j3 j4; clear HR; have HR := Lib.hid hr; clear hr; obtain ⟨t21, HT21⟩ := hidE (tokT c s19); (try simp only [NM, reduceIte, HT21.out, bt_n] at HR); obtain ⟨j0, j1, j2, j3, j4⟩ := HF20.b0.t5; go_wp2_with fail; refine hK.out _ _ (fun _ => ?_) (fun hE => ?_)
  · exact ⟨j0, j1, j2, j3, j4⟩
  clear hS; (have hS := hE (by kernel_rfl)); clear hK K hE; (try simp only [AP]); (refine wpAnyT_ready (rs := [5]) (by kernel_rfl) rfl ?_); (refine AllT.cons rfl (fun K hK => ?_) AllT.nil); go_simp; refine name_world ?_; intro w22 hw22; have HF23 := HF20.kid2 98 a7 a19 hi7 hi19; rw [← hw22] at HF23; obtain ⟨b22, hb22⟩ : ∃ b, w19.heap.size = b := ⟨_, rfl⟩; rw [hb22] at HF23 ⊢; clear hw22 hb22; clear j0 j1 j2 j3 j4; obtain ⟨j0, j1, j2, j3, j4⟩ := HF23.b1.t5; refine hK.out _ _ (fun _ => ?_) (fun hE => ?_)
  · exact ⟨j0, j1, j2, j3, j4⟩
  clear hS; (have hS := hE (by kernel_rfl)); clear hK K hE; (try simp only [AP]); refine wpAnyT_pure (i := 6) (v := ?v4_6_24) rfl (by kernel_rfl) (fun _ _ _ h => h) (Or.inl ⟨by rfl, ?y4_6_24⟩) (fun _ => hS) ?_
  case y4_6_24 => (intro w hSw; go_simp; try with_reducible rfl)
  (try simp only [AP]); (refine wpAnyT_ready (rs := [7]) (by kernel_rfl) rfl ?_); (refine AllT.cons rfl (fun K hK => ?_) AllT.nil); go_simp; refine HF23.putT HB.out t2 { kind := 28, kids := [a7, a19] } 98 ((.slice (some ⟨b22, 0, none⟩) 2 2)) [.box 3 b5 59 (TC t2)] (.inr List.mem_cons_self) (by simp [Loc.key]) HR.out ?_ ?_
  · rintro s9 w9 rfl hq9; go_wp2_with fail; exact ⟨rfl, rfl, hq9.sub (by simp)⟩
  intro i25 s25 w25 hi25 HF26 hr; unfold kidC; clear j0 j1 j2 j3 j4; clear HR; have HR := Lib.hid hr; clear hr; obtain ⟨j0, j1, j2, j3, j4⟩ := HF26.b0.t5; go_wp2_with fail; refine hK.out _ _ (fun _ => ?_) (fun hE => ?_)
  · exact ⟨j0, j1, j2, j3, j4⟩
  clear hS; (have hS := hE (by kernel_rfl)); clear hK K hE; (try simp only [AP]); (refine wpAnyT_ready (rs := [8]) (by kernel_rfl) rfl ?_); (refine AllT.cons rfl (fun K hK => ?_) AllT.nil); go_simp; refine hK.out _ _ (fun _ => ?_) (fun hE => ?_)
  · exact ⟨j0, j1, j2, j3, j4⟩
  clear hS; (have hS := hE (by kernel_rfl)); clear hK K hE; (try simp only [AP]); (refine wpAnyT_done (by kernel_rfl) ?_ _); clear hS; have hr := HR.out; clear HR; subst hr; go_wp2_with fail; go_ret; exact ⟨⟨rfl, hi25⟩, HF26.sub (by simp)⟩
theorem clause_step (hS : TokSt c.l) (n : Nat) (hn : n ≤ 1000000) (IH : ExAt c n) : Meth c 164 #[.pointer (some ⟨c.bp, 0, none⟩)] (exprs (c.l.map Tok.bt) (n + 1) .clause) vNum := by
  (refine Meth.mk fun E s0 r W HF1 hb hr ho => ?_); have HN := Lib.hid (next_any hS); (have HK := Lib.hid (fun k => kind_any hS k)); (have HWt := Lib.hid (fun k x => want_any hS k x)); have HPm := Lib.hid (param_any hS); have HIexpr := Lib.hid IH.expr; simp only [Pa.exprs] at hr; have HB := Lib.hid hb; have HO := Lib.hid ho; clear hb ho; have HR := Lib.hid hr; clear hr; obtain ⟨t2, HT2⟩ := hidE (tokT c s0); (try simp only [NM, reduceIte, HT2.out, bt_n] at HR); have fld0 := fldT0; have fld1 := fldT1; have fld2 := fldT2; go_enter Tryz.func164, Tryz.ntmps164; go_wp2_with fail
  with_reducible refine (HF1.tok).mono ?_
  rintro e w3 ⟨rfl, HF4⟩; rw [HT2.out]; go_upto_region 2 with (fail); obtain ⟨b5, w5, hb5, hw5, HF6⟩ := HF4.boxT 3 t2; rw [hw5, hb5]; clear hw5 hb5; obtain ⟨j0, j1, j2, j3, j4⟩ := HF6.b0.t5; obtain ⟨q7, hq7⟩ : ∃ q, isB t2.bt 4 ⟨#[114, 101, 116, 117, 114, 110]⟩ = q := ⟨_, rfl⟩; have HI7 := Lib.hid (HF6.iskey ⟨#[114, 101, 116, 117, 114, 110]⟩); rw [HT2.out, hq7] at HI7; (try simp only [NM, reduceIte, hq7, bt_n] at HR); clear hq7; go_wp2_with fail
  with_reducible refine HI7.out.mono ?_
  rintro e w7 ⟨rfl, HF8⟩; clear j0 j1 j2 j3 j4; obtain ⟨j0, j1, j2, j3, j4⟩ := HF8.b0.t5; cases q7
  · (try simp only [NM, reduceIte, bt_n] at HR); go_wp2_with fail
    with_reducible refine HF8.bind (HK.out 0) HB.out HR.out HO.out ?_ ?_
    · rintro s9 w9 rfl hq9; go_wp2_with fail; exact ⟨rfl, rfl, hq9.sub (by simp)⟩
    rintro a9 s9 e w9 ⟨u9, rfl, rfl, hwf9⟩ HF10 hr; clear j0 j1 j2 j3 j4; clear HR; have HR := Lib.hid hr; clear hr; obtain ⟨t11, HT11⟩ := hidE (tokT c s9); (try simp only [NM, reduceIte, HT11.out, bt_n] at HR); obtain ⟨j0, j1, j2, j3, j4⟩ := HF10.b0.t5; go_wp2_with fail
    with_reducible refine HF10.bind HPm.out HB.out HR.out HO.out ?_ ?_
    · rintro s9 w9 rfl hq9; go_wp2_with fail; exact ⟨rfl, rfl, hq9.sub (by simp)⟩
    rintro a12 s12 e w12 ⟨rfl, hi12⟩ HF13 hr; unfold kidC; clear j0 j1 j2 j3 j4; clear HR; have HR := Lib.hid hr; clear hr; obtain ⟨t14, HT14⟩ := hidE (tokT c s12); (try simp only [NM, reduceIte, HT14.out, bt_n] at HR); obtain ⟨j0, j1, j2, j3, j4⟩ := HF13.b0.t5; go_wp2_with fail
    with_reducible refine HF13.bind HPm.out HB.out HR.out HO.out ?_ ?_
    · rintro s9 w9 rfl hq9; go_wp2_with fail; exact ⟨rfl, rfl, hq9.sub (by simp)⟩
    rintro a15 s15 e w15 ⟨rfl, hi15⟩ HF16 hr; unfold kidC; clear j0 j1 j2 j3 j4; clear HR; have HR := Lib.hid hr; clear hr; obtain ⟨t17, HT17⟩ := hidE (tokT c s15); (try simp only [NM, reduceIte, HT17.out, bt_n] at HR); obtain ⟨j0, j1, j2, j3, j4⟩ := HF16.b0.t5; go_wp2_with fail
    with_reducible refine HF16.bind (HWt.out 4 ⟨#[45, 62]⟩) HB.out HR.out HO.out ?_ ?_
    · rintro s9 w9 rfl hq9; go_wp2_with fail; exact ⟨rfl, rfl, hq9.sub (by simp)⟩
    rintro a18 s18 e w18 ⟨u18, rfl, rfl, hwf18⟩ HF19 hr; clear j0 j1 j2 j3 j4; clear HR; have HR := Lib.hid hr; clear hr; obtain ⟨t20, HT20⟩ := hidE (tokT c s18); (try simp only [NM, reduceIte, HT20.out, bt_n] at HR); obtain ⟨j0, j1, j2, j3, j4⟩ := HF19.b0.t5; go_upto_region 11 with (fail); refine wp_region_till [] (fun X => X.cell? ⟨b5, 0, none⟩ = some (.int .i64 t2.kind) ∧ X.cell? ⟨b5, 1, none⟩ = some (.string t2.text) ∧ X.cell? ⟨b5, 2, none⟩ = some (.int .i64 t2.n) ∧ X.cell? ⟨b5, 3, none⟩ = some (.int .i64 t2.line) ∧ X.cell? ⟨b5, 4, none⟩ = some (.int .i64 t2.col)) (by kernel_rfl) ?_ (fun hE => ?_)
    · exact ⟨j0, j1, j2, j3, j4⟩
    (have hS := hE (by kernel_rfl)); obtain ⟨w21, hw21⟩ : ∃ x, World.drew w18 = x := ⟨_, rfl⟩; rw [hw21] at hS ⊢; have HF22 := HF19.drew; rw [hw21] at HF22; clear hE hw21; clear j0 j1 j2 j3 j4; obtain ⟨j0, j1, j2, j3, j4⟩ := HF22.b0.t5; refine wpAnyT_pure (i := 0) (v := ?v11_0_23) rfl (by kernel_rfl) (fun _ _ _ h => h) (Or.inl ⟨by rfl, ?y11_0_23⟩) (fun _ => hS) ?_
    case y11_0_23 => (intro w hSw; go_simp; try with_reducible rfl)
    (try simp only [AP]); refine wpAnyT_take (i := 1) (v := ?v11_1_24) rfl (by kernel_rfl) (fun _ _ _ h => h) (Or.inl ⟨by rfl, ?y11_1_24⟩) hS ?_
    case y11_1_24 => (intro w hSw; (try dsimp only at hSw); go_simp; try with_reducible rfl)
    (try simp only [AP]); refine wpAnyT_pure (i := 2) (v := ?v11_2_25) rfl (by kernel_rfl) (fun _ _ _ h => h) (Or.inl ⟨by rfl, ?y11_2_25⟩) (fun _ => hS) ?_
    case y11_2_25 => (intro w hSw; go_simp; try with_reducible rfl)
    (try simp only [AP]); refine wpAnyT_pure (i := 3) (v := ?v11_3_26) rfl (by kernel_rfl) (fun _ _ _ h => h) (Or.inl ⟨by rfl, ?y11_3_26⟩) (fun _ => hS) ?_
    case y11_3_26 => (intro w hSw; go_simp; try with_reducible rfl)
    (try simp only [AP]); refine wpAnyT_pure (i := 4) (v := ?v11_4_27) rfl (by kernel_rfl) (fun _ _ _ h => h) (Or.inl ⟨by rfl, ?y11_4_27⟩) (fun _ => hS) ?_
    case y11_4_27 => (intro w hSw; go_simp; try with_reducible rfl)
    (try simp only [AP]); refine wpAnyT_pure (i := 5) (v := ?v11_5_28) rfl (by kernel_rfl) (fun _ _ _ h => h) (Or.inl ⟨by rfl, ?y11_5_28⟩) (fun _ => hS) ?_
    case y11_5_28 => (intro w hSw; go_simp; try with_reducible rfl)
    (try simp only [AP]); (refine wpAnyT_ready (rs := [6]) (by kernel_rfl) rfl ?_); (refine AllT.cons rfl (fun K hK => ?_) AllT.nil); go_simp
    with_reducible refine HF22.bind HIexpr.out HB.out HR.out HO.out ?_ ?_
    · rintro s9 w9 rfl hq9; go_wp2_with fail; exact ⟨rfl, rfl, hq9.sub (by simp)⟩
    rintro a29 s29 e w29 ⟨rfl, hi29⟩ HF30 hr; unfold kidC; clear j0 j1 j2 j3 j4; clear HR; have HR := Lib.hid hr; clear hr; obtain ⟨t31, HT31⟩ := hidE (tokT c s29); (try simp only [NM, reduceIte, HT31.out, bt_n] at HR); obtain ⟨j0, j1, j2, j3, j4⟩ := HF30.b0.t5; go_wp2_with fail; refine hK.out _ _ (fun _ => ?_) (fun hE => ?_)
    · exact ⟨j0, j1, j2, j3, j4⟩
    clear hS; (have hS := hE (by kernel_rfl)); clear hK K hE; (try simp only [AP]); (refine wpAnyT_ready (rs := [7]) (by kernel_rfl) rfl ?_); (refine AllT.cons rfl (fun K hK => ?_) AllT.nil); go_simp; refine name_world ?_; intro w32 hw32; have HF33 := HF30.kid3 98 a12 a15 a29 hi12 hi15 hi29; rw [← hw32] at HF33; obtain ⟨b32, hb32⟩ : ∃ b, w29.heap.size = b := ⟨_, rfl⟩; rw [hb32] at HF33 ⊢; clear hw32 hb32; clear j0 j1 j2 j3 j4; obtain ⟨j0, j1, j2, j3, j4⟩ := HF33.b1.t5; refine hK.out _ _ (fun _ => ?_) (fun hE => ?_)
    · exact ⟨j0, j1, j2, j3, j4⟩
    clear hS; (have hS := hE (by kernel_rfl)); clear hK K hE; (try simp only [AP]); refine wpAnyT_pure (i := 8) (v := ?v11_8_34) rfl (by kernel_rfl) (fun _ _ _ h => h) (Or.inl ⟨by rfl, ?y11_8_34⟩) (fun _ => hS) ?_
    case y11_8_34 => (intro w hSw; go_simp; try with_reducible rfl)
    (try simp only [AP]); (refine wpAnyT_ready (rs := [9]) (by kernel_rfl) rfl ?_); (refine AllT.cons rfl (fun K hK => ?_) AllT.nil); go_simp; refine HF33.putT HB.out t2 { kind := 34, text := u9.text, kids := [a12, a15, a29] } 98 ((.slice (some ⟨b32, 0, none⟩) 3 3)) [.box 3 b5 59 (TC t2)] (.inr List.mem_cons_self) (by simp [Loc.key]) HR.out ?_ ?_
    · rintro s9 w9 rfl hq9; go_wp2_with fail; exact ⟨rfl, rfl, hq9.sub (by simp)⟩
    intro i35 s35 w35 hi35 HF36 hr; unfold kidC; clear j0 j1 j2 j3 j4; clear HR; have HR := Lib.hid hr; clear hr; obtain ⟨j0, j1, j2, j3, j4⟩ := HF36.b0.t5; go_wp2_with fail; refine hK.out _ _ (fun _ => ?_) (fun hE => ?_)
    · exact ⟨j0, j1, j2, j3, j4⟩
    clear hS; (have hS := hE (by kernel_rfl)); clear hK K hE; (try simp only [AP]); (refine wpAnyT_ready (rs := [10]) (by kernel_rfl) rfl ?_); (refine AllT.cons rfl (fun K hK => ?_) AllT.nil); go_simp; refine hK.out _ _ (fun _ => ?_) (fun hE => ?_)
    · exact ⟨j0, j1, j2, j3, j4⟩
    clear hS; (have hS := hE (by kernel_rfl)); clear hK K hE; (try simp only [AP]); (refine wpAnyT_done (by kernel_rfl) ?_ _); clear hS; have hr := HR.out; clear HR; subst hr; go_wp2_with fail; go_ret; exact ⟨⟨rfl, hi35⟩, HF36.sub (by simp)⟩
  · (try simp only [NM, reduceIte, bt_n] at HR); go_wp2_with fail
    with_reducible refine HF8.bind HN.out HB.out HR.out HO.out ?_ ?_
    · rintro s9 w9 rfl hq9; go_wp2_with fail; exact ⟨rfl, rfl, hq9.sub (by simp)⟩
    rintro a37 s37 e w37 ⟨u37, rfl, rfl, hwf37⟩ HF38 hr; clear j0 j1 j2 j3 j4; clear HR; have HR := Lib.hid hr; clear hr; obtain ⟨t39, HT39⟩ := hidE (tokT c s37); (try simp only [NM, reduceIte, HT39.out, bt_n] at HR); obtain ⟨j0, j1, j2, j3, j4⟩ := HF38.b0.t5; go_wp2_with fail
    with_reducible refine HF38.bind HPm.out HB.out HR.out HO.out ?_ ?_
    · rintro s9 w9 rfl hq9; go_wp2_with fail; exact ⟨rfl, rfl, hq9.sub (by simp)⟩
    rintro a40 s40 e w40 ⟨rfl, hi40⟩ HF41 hr; unfold kidC; clear j0 j1 j2 j3 j4; clear HR; have HR := Lib.hid hr; clear hr; obtain ⟨t42, HT42⟩ := hidE (tokT c s40); (try simp only [NM, reduceIte, HT42.out, bt_n] at HR); obtain ⟨j0, j1, j2, j3, j4⟩ := HF41.b0.t5; go_wp2_with fail
    with_reducible refine HF41.bind (HWt.out 4 ⟨#[45, 62]⟩) HB.out HR.out HO.out ?_ ?_
    · rintro s9 w9 rfl hq9; go_wp2_with fail; exact ⟨rfl, rfl, hq9.sub (by simp)⟩
    rintro a43 s43 e w43 ⟨u43, rfl, rfl, hwf43⟩ HF44 hr; clear j0 j1 j2 j3 j4; clear HR; have HR := Lib.hid hr; clear hr; obtain ⟨t45, HT45⟩ := hidE (tokT c s43); (try simp only [NM, reduceIte, HT45.out, bt_n] at HR); obtain ⟨j0, j1, j2, j3, j4⟩ := HF44.b0.t5; go_upto_region 6 with (fail); refine wp_region_till [] (fun X => X.cell? ⟨b5, 0, none⟩ = some (.int .i64 t2.kind) ∧ X.cell? ⟨b5, 1, none⟩ = some (.string t2.text) ∧ X.cell? ⟨b5, 2, none⟩ = some (.int .i64 t2.n) ∧ X.cell? ⟨b5, 3, none⟩ = some (.int .i64 t2.line) ∧ X.cell? ⟨b5, 4, none⟩ = some (.int .i64 t2.col)) (by kernel_rfl) ?_ (fun hE => ?_)
    · exact ⟨j0, j1, j2, j3, j4⟩
    (have hS := hE (by kernel_rfl)); obtain ⟨w46, hw46⟩ : ∃ x, World.drew w43 = x := ⟨_, rfl⟩; rw [hw46] at hS ⊢; have HF47 := HF44.drew; rw [hw46] at HF47; clear hE hw46; clear j0 j1 j2 j3 j4; obtain ⟨j0, j1, j2, j3, j4⟩ := HF47.b0.t5; refine wpAnyT_pure (i := 0) (v := ?v6_0_48) rfl (by kernel_rfl) (fun _ _ _ h => h) (Or.inl ⟨by rfl, ?y6_0_48⟩) (fun _ => hS) ?_
    case y6_0_48 => (intro w hSw; go_simp; try with_reducible rfl)
    (try simp only [AP]); refine wpAnyT_take (i := 1) (v := ?v6_1_49) rfl (by kernel_rfl) (fun _ _ _ h => h) (Or.inl ⟨by rfl, ?y6_1_49⟩) hS ?_
    case y6_1_49 => (intro w hSw; (try dsimp only at hSw); go_simp; try with_reducible rfl)
    (try simp only [AP]); refine wpAnyT_pure (i := 2) (v := ?v6_2_50) rfl (by kernel_rfl) (fun _ _ _ h => h) (Or.inl ⟨by rfl, ?y6_2_50⟩) (fun _ => hS) ?_
    case y6_2_50 => (intro w hSw; go_simp; try with_reducible rfl)
    (try simp only [AP]); refine wpAnyT_pure (i := 3) (v := ?v6_3_51) rfl (by kernel_rfl) (fun _ _ _ h => h) (Or.inl ⟨by rfl, ?y6_3_51⟩) (fun _ => hS) ?_
    case y6_3_51 => (intro w hSw; go_simp; try with_reducible rfl)
    (try simp only [AP]); (refine wpAnyT_ready (rs := [4]) (by kernel_rfl) rfl ?_); (refine AllT.cons rfl (fun K hK => ?_) AllT.nil); go_simp
    with_reducible refine HF47.bind HIexpr.out HB.out HR.out HO.out ?_ ?_
    · rintro s9 w9 rfl hq9; go_wp2_with fail; exact ⟨rfl, rfl, hq9.sub (by simp)⟩
    rintro a52 s52 e w52 ⟨rfl, hi52⟩ HF53 hr; unfold kidC; clear j0 j1 j2 j3 j4; clear HR; have HR := Lib.hid hr; clear hr; obtain ⟨t54, HT54⟩ := hidE (tokT c s52); (try simp only [NM, reduceIte, HT54.out, bt_n] at HR); obtain ⟨j0, j1, j2, j3, j4⟩ := HF53.b0.t5; go_wp2_with fail; refine hK.out _ _ (fun _ => ?_) (fun hE => ?_)
    · exact ⟨j0, j1, j2, j3, j4⟩
    clear hS; (have hS := hE (by kernel_rfl)); clear hK K hE; (try simp only [AP]); (refine wpAnyT_ready (rs := [5]) (by kernel_rfl) rfl ?_); (refine AllT.cons rfl (fun K hK => ?_) AllT.nil); go_simp; refine name_world ?_; intro w55 hw55; have HF56 := HF53.kid2 98 a40 a52 hi40 hi52; rw [← hw55] at HF56; obtain ⟨b55, hb55⟩ : ∃ b, w52.heap.size = b := ⟨_, rfl⟩; rw [hb55] at HF56 ⊢; clear hw55 hb55; clear j0 j1 j2 j3 j4; obtain ⟨j0, j1, j2, j3, j4⟩ := HF56.b1.t5; refine hK.out _ _ (fun _ => ?_) (fun hE => ?_)
    · exact ⟨j0, j1, j2, j3, j4⟩
    clear hS; (have hS := hE (by kernel_rfl)); clear hK K hE; (try simp only [AP]); refine wpAnyT_pure (i := 6) (v := ?v6_6_57) rfl (by kernel_rfl) (fun _ _ _ h => h) (Or.inl ⟨by rfl, ?y6_6_57⟩) (fun _ => hS) ?_
    case y6_6_57 => (intro w hSw; go_simp; try with_reducible rfl)
    (try simp only [AP]); (refine wpAnyT_ready (rs := [7]) (by kernel_rfl) rfl ?_); (refine AllT.cons rfl (fun K hK => ?_) AllT.nil); go_simp; refine HF56.putT HB.out t2 { kind := 33, kids := [a40, a52] } 98 ((.slice (some ⟨b55, 0, none⟩) 2 2)) [.box 3 b5 59 (TC t2)] (.inr List.mem_cons_self) (by simp [Loc.key]) HR.out ?_ ?_
    · rintro s9 w9 rfl hq9; go_wp2_with fail; exact ⟨rfl, rfl, hq9.sub (by simp)⟩
    intro i58 s58 w58 hi58 HF59 hr; unfold kidC; clear j0 j1 j2 j3 j4; clear HR; have HR := Lib.hid hr; clear hr; obtain ⟨j0, j1, j2, j3, j4⟩ := HF59.b0.t5; go_wp2_with fail; refine hK.out _ _ (fun _ => ?_) (fun hE => ?_)
    · exact ⟨j0, j1, j2, j3, j4⟩
    clear hS; (have hS := hE (by kernel_rfl)); clear hK K hE; (try simp only [AP]); (refine wpAnyT_ready (rs := [8]) (by kernel_rfl) rfl ?_); (refine AllT.cons rfl (fun K hK => ?_) AllT.nil); go_simp; refine hK.out _ _ (fun _ => ?_) (fun hE => ?_)
    · exact ⟨j0, j1, j2, j3, j4⟩
    clear hS; (have hS := hE (by kernel_rfl)); clear hK K hE; (try simp only [AP]); (refine wpAnyT_done (by kernel_rfl) ?_ _); clear hS; have hr := HR.out; clear HR; subst hr; go_wp2_with fail; go_ret; exact ⟨⟨rfl, hi58⟩, HF59.sub (by simp)⟩
theorem def_step (hS : TokSt c.l) (n : Nat) (hn : n ≤ 1000000) (IH : ExAt c n) : Meth c 119 #[.pointer (some ⟨c.bp, 0, none⟩)] (exprs (c.l.map Tok.bt) (n + 1) .defn) vNum := by
  (refine Meth.mk fun E s0 r W HF1 hb hr ho => ?_); have HN := Lib.hid (next_any hS); (have HK := Lib.hid (fun k => kind_any hS k)); (have HWt := Lib.hid (fun k x => want_any hS k x)); have HPm := Lib.hid (param_any hS); have HIdefOf := Lib.hid IH.defOf; simp only [Pa.exprs] at hr; (have HSo := Lib.hid (fun t name => sigOf_any hS n hn t name)); have HDf := Lib.hid (defined_any hS); have HB := Lib.hid hb; have HO := Lib.hid ho; clear hb ho; have HR := Lib.hid hr; clear hr; obtain ⟨t2, HT2⟩ := hidE (tokT c s0); (try simp only [NM, reduceIte, HT2.out, bt_n] at HR); have fld0 := fldT0; have fld1 := fldT1; have fld2 := fldT2; go_enter Tryz.func119, Tryz.ntmps119; go_wp2_with fail
  with_reducible refine (HF1.tok).mono ?_
  rintro e w3 ⟨rfl, HF4⟩; rw [HT2.out]; go_upto_region 2 with (fail); obtain ⟨b5, w5, hb5, hw5, HF6⟩ := HF4.boxT 3 t2; rw [hw5, hb5]; clear hw5 hb5; obtain ⟨j0, j1, j2, j3, j4⟩ := HF6.b0.t5; go_wp2_with fail
  with_reducible refine HF6.bind HDf.out HB.out HR.out HO.out ?_ ?_
  · rintro s9 w9 rfl hq9; go_wp2_with fail; exact ⟨rfl, rfl, hq9.sub (by simp)⟩
  intro a7 s7 e w7 hv HF8 hr; obtain rfl := hv; clear j0 j1 j2 j3 j4; clear HR; have HR := Lib.hid hr; clear hr; obtain ⟨t9, HT9⟩ := hidE (tokT c s7); (try simp only [NM, reduceIte, HT9.out, bt_n] at HR); obtain ⟨j0, j1, j2, j3, j4⟩ := HF8.b0.t5; obtain ⟨q10, hq10⟩ : ∃ q, isB t9.bt 4 ⟨#[58]⟩ = q := ⟨_, rfl⟩; have HI10 := Lib.hid (HF8.iskey ⟨#[58]⟩); rw [HT9.out, hq10] at HI10; (try simp only [NM, reduceIte, hq10, bt_n] at HR); clear hq10; go_wp2_with fail
  with_reducible refine HI10.out.mono ?_
  rintro e w10 ⟨rfl, HF11⟩; clear j0 j1 j2 j3 j4; obtain ⟨j0, j1, j2, j3, j4⟩ := HF11.b0.t5; cases q10
  · (try simp only [NM, reduceIte, bt_n] at HR); go_wp2_with fail
    with_reducible refine HF11.tail (HIdefOf.out t2 _) HB.out HR.out HO.out ?_ ?_
    · rintro s9 w9 rfl hq9; go_wp2_with fail; exact ⟨rfl, rfl, hq9.sub (by simp)⟩
    rintro a12 s12 e w12 ⟨rfl, hi12⟩ HF13 hr; unfold kidC; clear j0 j1 j2 j3 j4; clear HR; have HR := Lib.hid hr; clear hr; obtain ⟨j0, j1, j2, j3, j4⟩ := HF13.b0.t5; have hr := HR.out; clear HR; subst hr; go_wp2_with fail; go_ret; exact ⟨⟨rfl, hi12⟩, HF13.sub (by simp)⟩
  · (try simp only [NM, reduceIte, bt_n] at HR); go_wp2_with fail
    with_reducible refine HF11.tail (HSo.out t2 _) HB.out HR.out HO.out ?_ ?_
    · rintro s9 w9 rfl hq9; go_wp2_with fail; exact ⟨rfl, rfl, hq9.sub (by simp)⟩
    rintro a14 s14 e w14 ⟨rfl, hi14⟩ HF15 hr; unfold kidC; clear j0 j1 j2 j3 j4; clear HR; have HR := Lib.hid hr; clear hr; obtain ⟨j0, j1, j2, j3, j4⟩ := HF15.b0.t5; have hr := HR.out; clear HR; subst hr; go_wp2_with fail; go_ret; exact ⟨⟨rfl, hi14⟩, HF15.sub (by simp)⟩
theorem defOf_step (hS : TokSt c.l) (n : Nat) (hn : n ≤ 1000000) (IH : ExAt c n) (t : Tok) (name : ByteArray) : Meth c 142 #[.pointer (some ⟨c.bp, 0, none⟩), .agg #[.int .i64 t.kind, .string t.text, .int .i64 t.n, .int .i64 t.line, .int .i64 t.col], .string name] (exprs (c.l.map Tok.bt) (n + 1) (.defOf name)) vNum := by
  (refine Meth.mk fun E s0 r W HF1 hb hr ho => ?_); have HN := Lib.hid (next_any hS); (have HK := Lib.hid (fun k => kind_any hS k)); (have HWt := Lib.hid (fun k x => want_any hS k x)); have HPm := Lib.hid (param_any hS); have HIexpr := Lib.hid IH.expr; simp only [Pa.exprs] at hr; have HB := Lib.hid hb; have HO := Lib.hid ho; clear hb ho; have HR := Lib.hid hr; clear hr; obtain ⟨t2, HT2⟩ := hidE (tokT c s0); (try simp only [NM, reduceIte, HT2.out, bt_n] at HR); have fld0 := fldT0; have fld1 := fldT1; have fld2 := fldT2; go_enter Tryz.func142, Tryz.ntmps142; go_upto_region 1 with (fail); obtain ⟨b3, w3, hb3, hw3, HF4⟩ := HF1.boxT 4 t; rw [hw3, hb3]; clear hw3 hb3; obtain ⟨j0, j1, j2, j3, j4⟩ := HF4.b0.t5; go_wp2_with fail
  with_reducible refine (HF4.tok).mono ?_
  rintro e w5 ⟨rfl, HF6⟩; rw [HT2.out]; clear j0 j1 j2 j3 j4; obtain ⟨j0, j1, j2, j3, j4⟩ := HF6.b0.t5; go_upto_region 2 with (fail); obtain ⟨b7, w7, hb7, hw7, HF8⟩ := HF6.boxT 7 t2; rw [hw7, hb7]; clear hw7 hb7; clear j0 j1 j2 j3 j4; obtain ⟨j5, j6, j7, j8, j9⟩ := HF8.b0.t5; obtain ⟨j0, j1, j2, j3, j4⟩ := HF8.b1.t5; have HF9 := HF8.nil 8; clear j5 j6 j7 j8 j9 j0 j1 j2 j3 j4; obtain ⟨j5, j6, j7, j8, j9⟩ := HF9.b1.t5; obtain ⟨j0, j1, j2, j3, j4⟩ := HF9.b2.t5; have hr := HR.out; clear HR; obtain ⟨F10, g10, hFF10, hGG10, hr⟩ := split_loop hr; have HFF10 := Lib.hid hFF10; have HGG10 := Lib.hid hGG10; have HR := Lib.hid hr; clear hr hFF10 hGG10; (have HF11 := HF9.sub (L' := [.row 8 (.slice none 0 0) [], .box 7 b7 59 (TC t2), .box 4 b3 59 (TC t)]) (by simp)); clear HF9; clear j5 j6 j7 j8 j9 j0 j1 j2 j3 j4; go_wp2_with fail; go_loopg [8] n (fun gk x8 wr => ∃ (s5 : Ps) (l5 : List Nat), Fr c E 0 [.row 8 x8 l5, .box 7 b7 59 (TC t2), .box 4 b3 59 (TC t)] s5 wr ∧ l5.length + gk ≤ 1000000 ∧ Hid ((loop F10 gk l5 >>= g10) s5 = r))
  case atStart => exact ⟨s0, [], HF11.out, by (try simp only [List.length_nil, List.length_cons]); omega, HR.out⟩
  case round =>
    obtain ⟨w10, rfl⟩ : ∃ w, w = wr := ⟨_, rfl⟩; clear HR HF11; obtain ⟨s10, l10, HF12, hl10, hr⟩ := hrel; obtain ⟨A10, cp10, hv10, _⟩ := own_formP HF12.r0; subst hv10; obtain _ | m10 := gk
    · exact absurd (loop_zero hr.out) HO.out
    have HR := Lib.hid (loop_step hr.out HFF10.out); clear hr; obtain ⟨t13, HT13⟩ := hidE (tokT c s10); (try simp only [NM, reduceIte, HT13.out, bt_n] at HR); obtain ⟨j5, j6, j7, j8, j9⟩ := HF12.b1.t5; obtain ⟨j0, j1, j2, j3, j4⟩ := HF12.b2.t5; obtain ⟨q14, hq14⟩ : ∃ q, isB t13.bt 4 ⟨#[61]⟩ = q := ⟨_, rfl⟩; have HI14 := Lib.hid (HF12.iskey ⟨#[61]⟩); rw [HT13.out, hq14] at HI14; (try simp only [NM, reduceIte, hq14, bt_n] at HR); clear hq14; go_wp2_with fail
    with_reducible refine HI14.out.mono ?_
    rintro e w14 ⟨rfl, HF15⟩; clear j5 j6 j7 j8 j9 j0 j1 j2 j3 j4; obtain ⟨j5, j6, j7, j8, j9⟩ := HF15.b1.t5; obtain ⟨j0, j1, j2, j3, j4⟩ := HF15.b2.t5; cases q14
    · (try simp only [NM, reduceIte, bt_n] at HR); go_wp2_with fail
      with_reducible refine HF15.bind HPm.out HB.out HR.out HO.out ?_ ?_
      · rintro s9 w9 rfl hq9; go_wp2_with fail; exact ⟨rfl, rfl, hq9.sub (by simp)⟩
      rintro a16 s16 e w16 ⟨rfl, hi16⟩ HF17 hr; unfold kidC; clear j5 j6 j7 j8 j9 j0 j1 j2 j3 j4; clear HR; have HR := Lib.hid hr; clear hr; obtain ⟨t18, HT18⟩ := hidE (tokT c s16); (try simp only [NM, reduceIte, HT18.out, bt_n] at HR); obtain ⟨j5, j6, j7, j8, j9⟩ := HF17.b1.t5; obtain ⟨j0, j1, j2, j3, j4⟩ := HF17.b2.t5; (go_wp2_with (at_builtin; (refine (HF17.kid1 99 a16 hi16).wpl_app rfl 8 (List.mem_cons_of_mem _ List.mem_cons_self) _ _ rfl rfl List.mem_cons_self hi16 rfl (by (try simp only [List.length_append, List.length_nil, List.length_cons]); omega) (L' := [.box 7 b7 59 (TC t2), .box 4 b3 59 (TC t)]) (by simp [Loc.key]) ?_); intro v19 w19 HF20)); obtain ⟨A19, N19, cp19, hv19, hN19⟩ := own_form2 HF20.r0; subst hv19; clear j5 j6 j7 j8 j9 j0 j1 j2 j3 j4; obtain ⟨j5, j6, j7, j8, j9⟩ := HF20.b1.t5; obtain ⟨j0, j1, j2, j3, j4⟩ := HF20.b2.t5; go_wp2_with fail; go_roundg m10
      case measure => omega
      case rel => exact ⟨s16, (l10 ++ [a16]), HF20.sub (L' := [.row 8 (.slice A19 N19 cp19) (l10 ++ [a16]), .box 7 b7 59 (TC t2), .box 4 b3 59 (TC t)]) (by simp), by (try simp only [List.length_append, List.length_nil, List.length_cons]); omega, HR.out⟩
    · (try simp only [NM, reduceIte, bt_n] at HR); (try simp only [NM, reduceIte, HGG10.out, bt_n] at HR); (try simp only [NM, reduceIte, HT13.out, bt_n] at HR); go_wp2_with fail
      with_reducible refine HF15.bind HN.out HB.out HR.out HO.out ?_ ?_
      · rintro s9 w9 rfl hq9; go_wp2_with fail; exact ⟨rfl, rfl, hq9.sub (by simp)⟩
      rintro a21 s21 e w21 ⟨u21, rfl, rfl, hwf21⟩ HF22 hr; clear j5 j6 j7 j8 j9 j0 j1 j2 j3 j4; clear HR; have HR := Lib.hid hr; clear hr; obtain ⟨t23, HT23⟩ := hidE (tokT c s21); (try simp only [NM, reduceIte, HT23.out, bt_n] at HR); obtain ⟨j5, j6, j7, j8, j9⟩ := HF22.b1.t5; obtain ⟨j0, j1, j2, j3, j4⟩ := HF22.b2.t5; go_wp2_with fail
      with_reducible refine HF22.bind HIexpr.out HB.out HR.out HO.out ?_ ?_
      · rintro s9 w9 rfl hq9; go_wp2_with fail; exact ⟨rfl, rfl, hq9.sub (by simp)⟩
      rintro a24 s24 e w24 ⟨rfl, hi24⟩ HF25 hr; unfold kidC; clear j5 j6 j7 j8 j9 j0 j1 j2 j3 j4; clear HR; have HR := Lib.hid hr; clear hr; obtain ⟨t26, HT26⟩ := hidE (tokT c s24); (try simp only [NM, reduceIte, HT26.out, bt_n] at HR); obtain ⟨j5, j6, j7, j8, j9⟩ := HF25.b1.t5; obtain ⟨j0, j1, j2, j3, j4⟩ := HF25.b2.t5; by_cases h010 : 0 < l10.length
      · (have hd10 : decide (0 < l10.length) = true := by simpa using h010); (try simp only [NM, reduceIte, h010, bt_n] at HR); go_upto_region 8 with (fail); refine wp_region_till [] (fun X => X.cell? ⟨b7, 0, none⟩ = some (.int .i64 t2.kind) ∧ X.cell? ⟨b7, 1, none⟩ = some (.string t2.text) ∧ X.cell? ⟨b7, 2, none⟩ = some (.int .i64 t2.n) ∧ X.cell? ⟨b7, 3, none⟩ = some (.int .i64 t2.line) ∧ X.cell? ⟨b7, 4, none⟩ = some (.int .i64 t2.col) ∧ X.cell? ⟨b3, 0, none⟩ = some (.int .i64 t.kind) ∧ X.cell? ⟨b3, 1, none⟩ = some (.string t.text) ∧ X.cell? ⟨b3, 2, none⟩ = some (.int .i64 t.n) ∧ X.cell? ⟨b3, 3, none⟩ = some (.int .i64 t.line) ∧ X.cell? ⟨b3, 4, none⟩ = some (.int .i64 t.col)) (by kernel_rfl) ?_ (fun hE => ?_)
        · exact ⟨j5, j6, j7, j8, j9, j0, j1, j2, j3, j4⟩
        (have hS := hE (by kernel_rfl)); obtain ⟨w27, hw27⟩ : ∃ x, World.drew w24 = x := ⟨_, rfl⟩; rw [hw27] at hS ⊢; have HF28 := HF25.drew; rw [hw27] at HF28; clear hE hw27; clear j5 j6 j7 j8 j9 j0 j1 j2 j3 j4; obtain ⟨j5, j6, j7, j8, j9⟩ := HF28.b1.t5; obtain ⟨j0, j1, j2, j3, j4⟩ := HF28.b2.t5; refine wpAnyT_pure (i := 0) (v := ?v8_0_29) rfl (by kernel_rfl) (fun _ _ _ h => h) (Or.inl ⟨by rfl, ?y8_0_29⟩) (fun _ => hS) ?_
        case y8_0_29 => (intro w hSw; go_simp; try with_reducible rfl)
        (try simp only [AP]); refine wpAnyT_take (i := 1) (v := ?v8_1_30) rfl (by kernel_rfl) (fun _ _ _ h => h) (Or.inl ⟨by rfl, ?y8_1_30⟩) hS ?_
        case y8_1_30 => (intro w hSw; (try dsimp only at hSw); go_simp; try with_reducible rfl)
        (try simp only [AP]); refine wpAnyT_pure (i := 2) (v := ?v8_2_31) rfl (by kernel_rfl) (fun _ _ _ h => h) (Or.inl ⟨by rfl, ?y8_2_31⟩) (fun _ => hS) ?_
        case y8_2_31 => (intro w hSw; go_simp; try with_reducible rfl)
        (try simp only [AP]); refine wpAnyT_pure (i := 3) (v := ?v8_3_32) rfl (by kernel_rfl) (fun _ _ _ h => h) (Or.inl ⟨by rfl, ?y8_3_32⟩) (fun _ => hS) ?_
        case y8_3_32 => (intro w hSw; go_simp; try with_reducible rfl)
        (try simp only [AP]); (refine wpAnyT_ready (rs := [4]) (by kernel_rfl) rfl ?_); (refine AllT.cons rfl (fun K hK => ?_) AllT.nil); go_simp; refine name_world ?_; intro w33 hw33; have HF34 := HF28.kid1 98 a24 hi24; rw [← hw33] at HF34; obtain ⟨b33, hb33⟩ : ∃ b, w27.heap.size = b := ⟨_, rfl⟩; rw [hb33] at HF34 ⊢; clear hw33 hb33; clear j5 j6 j7 j8 j9 j0 j1 j2 j3 j4; obtain ⟨j5, j6, j7, j8, j9⟩ := HF34.b2.t5; obtain ⟨j0, j1, j2, j3, j4⟩ := HF34.b3.t5; refine hK.out _ _ (fun _ => ?_) (fun hE => ?_)
        · exact ⟨j5, j6, j7, j8, j9, j0, j1, j2, j3, j4⟩
        clear hS; (have hS := hE (by kernel_rfl)); clear hK K hE; (try simp only [AP]); (refine wpAnyT_ready (rs := [5]) (by kernel_rfl) rfl ?_); (refine AllT.cons rfl (fun K hK => ?_) AllT.nil); (refine HF34.st_app rfl 8 (List.mem_cons_of_mem _ List.mem_cons_self) _ _ rfl rfl List.mem_cons_self hi24 rfl (by (try simp only [List.length_append, List.length_nil, List.length_cons]); omega) (L' := [.box 7 b7 59 (TC t2), .box 4 b3 59 (TC t)]) (by simp [Loc.key]) ?_); intro v35 w35 HF36; obtain ⟨A35, N35, cp35, hv35, hN35⟩ := own_form2 HF36.r0; subst hv35; clear j5 j6 j7 j8 j9 j0 j1 j2 j3 j4; obtain ⟨j5, j6, j7, j8, j9⟩ := HF36.b1.t5; obtain ⟨j0, j1, j2, j3, j4⟩ := HF36.b2.t5; refine hK.out _ _ (fun _ => ?_) (fun hE => ?_)
        · exact ⟨j5, j6, j7, j8, j9, j0, j1, j2, j3, j4⟩
        clear hS; (have hS := hE (by kernel_rfl)); clear hK K hE; (try simp only [AP]); refine wpAnyT_pure (i := 6) (v := ?v8_6_37) rfl (by kernel_rfl) (fun _ _ _ h => h) (Or.inl ⟨by rfl, ?y8_6_37⟩) (fun _ => hS) ?_
        case y8_6_37 => (intro w hSw; go_simp; try with_reducible rfl)
        (try simp only [AP]); (refine wpAnyT_ready (rs := [7]) (by kernel_rfl) rfl ?_); (refine AllT.cons rfl (fun K hK => ?_) AllT.nil); go_simp; refine HF36.put HB.out t2 { kind := 22, kids := (l10 ++ [a24]) } 8 ((.slice A35 N35 cp35)) [.box 7 b7 59 (TC t2), .box 4 b3 59 (TC t)] (.inr List.mem_cons_self) (by simp [Loc.key]) HR.out ?_ ?_
        · rintro s9 w9 rfl hq9; go_wp2_with fail; exact ⟨rfl, rfl, hq9.sub (by simp)⟩
        intro i38 s38 w38 hi38 HF39 hr; unfold kidC; clear j5 j6 j7 j8 j9 j0 j1 j2 j3 j4; clear HR; have HR := Lib.hid hr; clear hr; obtain ⟨t40, HT40⟩ := hidE (tokT c s38); (try simp only [NM, reduceIte, HT40.out, bt_n] at HR); obtain ⟨j5, j6, j7, j8, j9⟩ := HF39.b0.t5; obtain ⟨j0, j1, j2, j3, j4⟩ := HF39.b1.t5; go_wp2_with fail; refine hK.out _ _ (fun _ => ?_) (fun hE => ?_)
        · exact ⟨j5, j6, j7, j8, j9, j0, j1, j2, j3, j4⟩
        clear hS; (have hS := hE (by kernel_rfl)); clear hK K hE; (try simp only [AP]); (refine wpAnyT_ready (rs := [8]) (by kernel_rfl) rfl ?_); (refine AllT.cons rfl (fun K hK => ?_) AllT.nil); go_simp; refine hK.out _ _ (fun _ => ?_) (fun hE => ?_)
        · exact ⟨j5, j6, j7, j8, j9, j0, j1, j2, j3, j4⟩
        clear hS; (have hS := hE (by kernel_rfl)); clear hK K hE; (try simp only [AP]); (refine wpAnyT_done (by kernel_rfl) ?_ _); clear hS; go_wp2_with fail; obtain ⟨b41, hb41⟩ : ∃ b, w38.heap.size = b := ⟨_, rfl⟩; obtain ⟨w41, hw41⟩ : ∃ w, w38.alloc (.cells #[.int .i64 (i38 : Int)] 3) = w := ⟨_, rfl⟩; have HF42 := HF39.kid1 97 i38 hi38; rw [hb41, hw41] at HF42; rw [hw41, hb41]; clear hw41 hb41; clear j5 j6 j7 j8 j9 j0 j1 j2 j3 j4; obtain ⟨j5, j6, j7, j8, j9⟩ := HF42.b1.t5; obtain ⟨j0, j1, j2, j3, j4⟩ := HF42.b2.t5; refine HF42.putT HB.out t { kind := 13, text := name, kids := [i38] } 97 ((.slice (some ⟨b41, 0, none⟩) 1 1)) [.box 7 b7 59 (TC t2), .box 4 b3 59 (TC t)] (.inr List.mem_cons_self) (by simp [Loc.key]) HR.out ?_ ?_
        · rintro s9 w9 rfl hq9; go_wp2_with fail; exact ⟨rfl, rfl, hq9.sub (by simp)⟩
        intro i43 s43 w43 hi43 HF44 hr; unfold kidC; clear j5 j6 j7 j8 j9 j0 j1 j2 j3 j4; clear HR; have HR := Lib.hid hr; clear hr; obtain ⟨j5, j6, j7, j8, j9⟩ := HF44.b0.t5; obtain ⟨j0, j1, j2, j3, j4⟩ := HF44.b1.t5; have hr := HR.out; clear HR; subst hr; go_wp2_with fail; go_ret; exact ⟨⟨rfl, hi43⟩, HF44.sub (by simp)⟩
      · (have hd10 : decide (0 < l10.length) = false := by simpa using h010); (try simp only [NM, reduceIte, h010, bt_n] at HR); go_wp2_with fail; obtain ⟨b45, hb45⟩ : ∃ b, w24.heap.size = b := ⟨_, rfl⟩; obtain ⟨w45, hw45⟩ : ∃ w, w24.alloc (.cells #[.int .i64 (a24 : Int)] 3) = w := ⟨_, rfl⟩; have HF46 := HF25.kid1 97 a24 hi24; rw [hb45, hw45] at HF46; rw [hw45, hb45]; clear hw45 hb45; clear j5 j6 j7 j8 j9 j0 j1 j2 j3 j4; obtain ⟨j5, j6, j7, j8, j9⟩ := HF46.b2.t5; obtain ⟨j0, j1, j2, j3, j4⟩ := HF46.b3.t5; refine HF46.putT HB.out t { kind := 13, text := name, kids := [a24] } 97 ((.slice (some ⟨b45, 0, none⟩) 1 1)) [.row 8 (.slice A10 l10.length cp10) l10, .box 7 b7 59 (TC t2), .box 4 b3 59 (TC t)] (.inr List.mem_cons_self) (by simp [Loc.key]) HR.out ?_ ?_
        · rintro s9 w9 rfl hq9; go_wp2_with fail; exact ⟨rfl, rfl, hq9.sub (by simp)⟩
        intro i47 s47 w47 hi47 HF48 hr; unfold kidC; clear j5 j6 j7 j8 j9 j0 j1 j2 j3 j4; clear HR; have HR := Lib.hid hr; clear hr; obtain ⟨j5, j6, j7, j8, j9⟩ := HF48.b1.t5; obtain ⟨j0, j1, j2, j3, j4⟩ := HF48.b2.t5; have hr := HR.out; clear HR; subst hr; go_wp2_with fail; go_ret; exact ⟨⟨rfl, hi47⟩, HF48.sub (by simp)⟩
theorem atom_step (hS : TokSt c.l) (n : Nat) (hn : n ≤ 1000000) (IH : ExAt c n) : Meth c 171 #[.pointer (some ⟨c.bp, 0, none⟩)] (exprs (c.l.map Tok.bt) (n + 1) .atom) vNum := by
  (refine Meth.mk fun E s0 r W HF1 hb hr ho => ?_); have HN := Lib.hid (next_any hS); (have HK := Lib.hid (fun k => kind_any hS k)); (have HWt := Lib.hid (fun k x => want_any hS k x)); have HPm := Lib.hid (param_any hS); have HIexpr := Lib.hid IH.expr; have HIrecord := Lib.hid IH.record; simp only [Pa.exprs] at hr; have HB := Lib.hid hb; have HO := Lib.hid ho; clear hb ho; have HR := Lib.hid hr; clear hr; obtain ⟨t2, HT2⟩ := hidE (tokT c s0); (try simp only [NM, reduceIte, HT2.out, bt_n] at HR); have fld0 := fldT0; have fld1 := fldT1; have fld2 := fldT2; go_enter Tryz.func171, Tryz.ntmps171; go_wp2_with fail
  with_reducible refine (HF1.tok).mono ?_
  rintro e w3 ⟨rfl, HF4⟩; rw [HT2.out]; go_upto_region 2 with (fail); obtain ⟨b5, w5, hb5, hw5, HF6⟩ := HF4.boxT 3 t2; rw [hw5, hb5]; clear hw5 hb5; obtain ⟨j0, j1, j2, j3, j4⟩ := HF6.b0.t5; obtain ⟨q7, eq7⟩ : ∃ q, (t2.bt.kind == 0) = q := ⟨_, rfl⟩; (try simp only [NM, reduceIte, eq7, bt_n] at HR); have hq7 : (t2.kind == 0) = q7 := eq7; (have nq7 : (t2.kind != 0) = !q7 := by rw [bne, hq7]); clear eq7; cases q7
  · simp only [NB] at nq7; (try simp only [NM, reduceIte, bt_n] at HR); obtain ⟨q8, eq8⟩ : ∃ q, (t2.bt.kind == 1) = q := ⟨_, rfl⟩; (try simp only [NM, reduceIte, eq8, bt_n] at HR); have hq8 : (t2.kind == 1) = q8 := eq8; (have nq8 : (t2.kind != 1) = !q8 := by rw [bne, hq8]); clear eq8; cases q8
    · simp only [NB] at nq8; (try simp only [NM, reduceIte, bt_n] at HR); obtain ⟨q9, eq9⟩ : ∃ q, (t2.bt.kind == 2) = q := ⟨_, rfl⟩; (try simp only [NM, reduceIte, eq9, bt_n] at HR); have hq9 : (t2.kind == 2) = q9 := eq9; (have nq9 : (t2.kind != 2) = !q9 := by rw [bne, hq9]); clear eq9; cases q9
      · simp only [NB] at nq9; (try simp only [NM, reduceIte, bt_n] at HR); obtain ⟨q10, hq10⟩ : ∃ q, isB t2.bt 5 ⟨#[40]⟩ = q := ⟨_, rfl⟩; have HI10 := Lib.hid (HF6.is 5 ⟨#[40]⟩); rw [HT2.out, hq10] at HI10; (try simp only [NM, reduceIte, hq10, bt_n] at HR); clear hq10; go_wp2_with fail
        with_reducible refine HI10.out.mono ?_
        rintro e w10 ⟨rfl, HF11⟩; clear j0 j1 j2 j3 j4; obtain ⟨j0, j1, j2, j3, j4⟩ := HF11.b0.t5; cases q10
        · (try simp only [NM, reduceIte, bt_n] at HR); obtain ⟨q12, hq12⟩ : ∃ q, isB t2.bt 5 ⟨#[123]⟩ = q := ⟨_, rfl⟩; have HI12 := Lib.hid (HF11.is 5 ⟨#[123]⟩); rw [HT2.out, hq12] at HI12; (try simp only [NM, reduceIte, hq12, bt_n] at HR); clear hq12; go_wp2_with fail
          with_reducible refine HI12.out.mono ?_
          rintro e w12 ⟨rfl, HF13⟩; clear j0 j1 j2 j3 j4; obtain ⟨j0, j1, j2, j3, j4⟩ := HF13.b0.t5; cases q12
          · (try simp only [NM, reduceIte, bt_n] at HR); go_wp2_with fail
            with_reducible refine (HF13.fail' 5 HB.out).mono ?_
            rintro e w14 ⟨rfl, hq⟩; have hq := Lib.hid hq; have hr := HR.out; clear HR; subst hr; clear j0 j1 j2 j3 j4; go_wp2_with fail; exact ⟨rfl, rfl, hq.out.sub (by simp)⟩
          · (try simp only [NM, reduceIte, bt_n] at HR); go_wp2_with fail
            with_reducible refine HF13.tail HIrecord.out HB.out HR.out HO.out ?_ ?_
            · rintro s9 w9 rfl hq9; go_wp2_with fail; exact ⟨rfl, rfl, hq9.sub (by simp)⟩
            rintro a15 s15 e w15 ⟨rfl, hi15⟩ HF16 hr; unfold kidC; clear j0 j1 j2 j3 j4; clear HR; have HR := Lib.hid hr; clear hr; obtain ⟨j0, j1, j2, j3, j4⟩ := HF16.b0.t5; have hr := HR.out; clear HR; subst hr; go_wp2_with fail; go_ret; exact ⟨⟨rfl, hi15⟩, HF16.sub (by simp)⟩
        · (try simp only [NM, reduceIte, bt_n] at HR); go_wp2_with fail
          with_reducible refine HF11.bind HN.out HB.out HR.out HO.out ?_ ?_
          · rintro s9 w9 rfl hq9; go_wp2_with fail; exact ⟨rfl, rfl, hq9.sub (by simp)⟩
          rintro a17 s17 e w17 ⟨u17, rfl, rfl, hwf17⟩ HF18 hr; clear j0 j1 j2 j3 j4; clear HR; have HR := Lib.hid hr; clear hr; obtain ⟨t19, HT19⟩ := hidE (tokT c s17); (try simp only [NM, reduceIte, HT19.out, bt_n] at HR); obtain ⟨j0, j1, j2, j3, j4⟩ := HF18.b0.t5; go_wp2_with fail
          with_reducible refine (HF18.tok).mono ?_
          rintro e w20 ⟨rfl, HF21⟩; rw [HT19.out]; clear j0 j1 j2 j3 j4; obtain ⟨j0, j1, j2, j3, j4⟩ := HF21.b0.t5; obtain ⟨q22, eq22⟩ : ∃ q, (t19.bt.kind == 3) = q := ⟨_, rfl⟩; (try simp only [NM, reduceIte, eq22, bt_n] at HR); have hq22 : (t19.kind == 3) = q22 := eq22; (have nq22 : (t19.kind != 3) = !q22 := by rw [bne, hq22]); clear eq22; cases q22
          · simp only [NB] at nq22; (try simp only [NM, reduceIte, bt_n] at HR); go_wp2_with fail
            with_reducible refine HF21.bind HIexpr.out HB.out HR.out HO.out ?_ ?_
            · rintro s9 w9 rfl hq9; go_wp2_with fail; exact ⟨rfl, rfl, hq9.sub (by simp)⟩
            rintro a23 s23 e w23 ⟨rfl, hi23⟩ HF24 hr; unfold kidC; clear j0 j1 j2 j3 j4; clear HR; have HR := Lib.hid hr; clear hr; obtain ⟨t25, HT25⟩ := hidE (tokT c s23); (try simp only [NM, reduceIte, HT25.out, bt_n] at HR); obtain ⟨j0, j1, j2, j3, j4⟩ := HF24.b0.t5; go_wp2_with fail
            with_reducible refine HF24.bind (HWt.out 5 ⟨#[41]⟩) HB.out HR.out HO.out ?_ ?_
            · rintro s9 w9 rfl hq9; go_wp2_with fail; exact ⟨rfl, rfl, hq9.sub (by simp)⟩
            rintro a26 s26 e w26 ⟨u26, rfl, rfl, hwf26⟩ HF27 hr; clear j0 j1 j2 j3 j4; clear HR; have HR := Lib.hid hr; clear hr; obtain ⟨t28, HT28⟩ := hidE (tokT c s26); (try simp only [NM, reduceIte, HT28.out, bt_n] at HR); obtain ⟨j0, j1, j2, j3, j4⟩ := HF27.b0.t5; have hr := HR.out; clear HR; subst hr; go_wp2_with fail; go_ret; exact ⟨⟨rfl, hi23⟩, HF27.sub (by simp)⟩
          · simp only [NB] at nq22; (try simp only [NM, reduceIte, bt_n] at HR); go_wp2_with fail
            with_reducible refine HF21.bind HN.out HB.out HR.out HO.out ?_ ?_
            · rintro s9 w9 rfl hq9; go_wp2_with fail; exact ⟨rfl, rfl, hq9.sub (by simp)⟩
            rintro a29 s29 e w29 ⟨u29, rfl, rfl, hwf29⟩ HF30 hr; clear j0 j1 j2 j3 j4; clear HR; have HR := Lib.hid hr; clear hr; obtain ⟨t31, HT31⟩ := hidE (tokT c s29); (try simp only [NM, reduceIte, HT31.out, bt_n] at HR); obtain ⟨j0, j1, j2, j3, j4⟩ := HF30.b0.t5; go_upto_region 12 with (fail); obtain ⟨b32, w32, hb32, hw32, HF33⟩ := HF30.boxT 4 u29; rw [hw32, hb32]; clear hw32 hb32; clear j0 j1 j2 j3 j4; obtain ⟨j5, j6, j7, j8, j9⟩ := HF33.b0.t5; obtain ⟨j0, j1, j2, j3, j4⟩ := HF33.b1.t5; go_wp2_with fail
            with_reducible refine HF33.bind (HWt.out 5 ⟨#[41]⟩) HB.out HR.out HO.out ?_ ?_
            · rintro s9 w9 rfl hq9; go_wp2_with fail; exact ⟨rfl, rfl, hq9.sub (by simp)⟩
            rintro a34 s34 e w34 ⟨u34, rfl, rfl, hwf34⟩ HF35 hr; clear j5 j6 j7 j8 j9 j0 j1 j2 j3 j4; clear HR; have HR := Lib.hid hr; clear hr; obtain ⟨t36, HT36⟩ := hidE (tokT c s34); (try simp only [NM, reduceIte, HT36.out, bt_n] at HR); obtain ⟨j5, j6, j7, j8, j9⟩ := HF35.b0.t5; obtain ⟨j0, j1, j2, j3, j4⟩ := HF35.b1.t5; go_wp2_with fail; refine HF35.putT HB.out t2 { kind := 20, text := u29.text } 999 (.slice none 0 0) [.box 4 b32 59 (TC u29), .box 3 b5 59 (TC t2)] (.inl ⟨rfl, rfl⟩) (by simp [Loc.key]) HR.out ?_ ?_
            · rintro s9 w9 rfl hq9; go_wp2_with fail; exact ⟨rfl, rfl, hq9.sub (by simp)⟩
            intro i37 s37 w37 hi37 HF38 hr; unfold kidC; clear j5 j6 j7 j8 j9 j0 j1 j2 j3 j4; clear HR; have HR := Lib.hid hr; clear hr; obtain ⟨j5, j6, j7, j8, j9⟩ := HF38.b0.t5; obtain ⟨j0, j1, j2, j3, j4⟩ := HF38.b1.t5; have hr := HR.out; clear HR; subst hr; go_wp2_with fail; go_ret; exact ⟨⟨rfl, hi37⟩, HF38.sub (by simp)⟩
      · simp only [NB] at nq9; (try simp only [NM, reduceIte, bt_n] at HR); go_wp2_with fail
        with_reducible refine HF6.bind HN.out HB.out HR.out HO.out ?_ ?_
        · rintro s9 w9 rfl hq9; go_wp2_with fail; exact ⟨rfl, rfl, hq9.sub (by simp)⟩
        rintro a39 s39 e w39 ⟨u39, rfl, rfl, hwf39⟩ HF40 hr; clear j0 j1 j2 j3 j4; clear HR; have HR := Lib.hid hr; clear hr; obtain ⟨t41, HT41⟩ := hidE (tokT c s39); (try simp only [NM, reduceIte, HT41.out, bt_n] at HR); obtain ⟨j0, j1, j2, j3, j4⟩ := HF40.b0.t5; go_wp2_with fail; refine HF40.putT HB.out t2 { kind := 21, n := t2.n } 999 (.slice none 0 0) [.box 3 b5 59 (TC t2)] (.inl ⟨rfl, rfl⟩) (by simp [Loc.key]) HR.out ?_ ?_
        · rintro s9 w9 rfl hq9; go_wp2_with fail; exact ⟨rfl, rfl, hq9.sub (by simp)⟩
        intro i42 s42 w42 hi42 HF43 hr; unfold kidC; clear j0 j1 j2 j3 j4; clear HR; have HR := Lib.hid hr; clear hr; obtain ⟨j0, j1, j2, j3, j4⟩ := HF43.b0.t5; have hr := HR.out; clear HR; subst hr; go_wp2_with fail; go_ret; exact ⟨⟨rfl, hi42⟩, HF43.sub (by simp)⟩
    · simp only [NB] at nq8; (try simp only [NM, reduceIte, bt_n] at HR); go_wp2_with fail
      with_reducible refine HF6.bind HN.out HB.out HR.out HO.out ?_ ?_
      · rintro s9 w9 rfl hq9; go_wp2_with fail; exact ⟨rfl, rfl, hq9.sub (by simp)⟩
      rintro a44 s44 e w44 ⟨u44, rfl, rfl, hwf44⟩ HF45 hr; clear j0 j1 j2 j3 j4; clear HR; have HR := Lib.hid hr; clear hr; obtain ⟨t46, HT46⟩ := hidE (tokT c s44); (try simp only [NM, reduceIte, HT46.out, bt_n] at HR); obtain ⟨j0, j1, j2, j3, j4⟩ := HF45.b0.t5; go_wp2_with fail; refine HF45.putT HB.out t2 { kind := 20, text := t2.text } 999 (.slice none 0 0) [.box 3 b5 59 (TC t2)] (.inl ⟨rfl, rfl⟩) (by simp [Loc.key]) HR.out ?_ ?_
      · rintro s9 w9 rfl hq9; go_wp2_with fail; exact ⟨rfl, rfl, hq9.sub (by simp)⟩
      intro i47 s47 w47 hi47 HF48 hr; unfold kidC; clear j0 j1 j2 j3 j4; clear HR; have HR := Lib.hid hr; clear hr; obtain ⟨j0, j1, j2, j3, j4⟩ := HF48.b0.t5; have hr := HR.out; clear HR; subst hr; go_wp2_with fail; go_ret; exact ⟨⟨rfl, hi47⟩, HF48.sub (by simp)⟩
  · simp only [NB] at nq7; (try simp only [NM, reduceIte, bt_n] at HR); obtain ⟨q49, hq49⟩ : ∃ q, isX t2.bt ⟨#[95]⟩ = q := ⟨_, rfl⟩; (have gq49 : (t2.text.toList == [95]) = q49 := by rw [← hq49, isX_eq, show (⟨#[95]⟩ : ByteArray).toList = [95] from by kernel_rfl]); (have nq49 : (t2.text.toList != [95]) = !q49 := by rw [bne, gq49]); (try simp only [NM, reduceIte, hq49, bt_n] at HR); clear hq49; cases q49
    · simp only [NB] at nq49; (try simp only [NM, reduceIte, bt_n] at HR); go_wp2_with fail
      with_reducible refine HF6.bind HN.out HB.out HR.out HO.out ?_ ?_
      · rintro s9 w9 rfl hq9; go_wp2_with fail; exact ⟨rfl, rfl, hq9.sub (by simp)⟩
      rintro a50 s50 e w50 ⟨u50, rfl, rfl, hwf50⟩ HF51 hr; clear j0 j1 j2 j3 j4; clear HR; have HR := Lib.hid hr; clear hr; obtain ⟨t52, HT52⟩ := hidE (tokT c s50); (try simp only [NM, reduceIte, HT52.out, bt_n] at HR); obtain ⟨j0, j1, j2, j3, j4⟩ := HF51.b0.t5; go_wp2_with fail; refine HF51.putT HB.out t2 { kind := 20, text := t2.text } 999 (.slice none 0 0) [.box 3 b5 59 (TC t2)] (.inl ⟨rfl, rfl⟩) (by simp [Loc.key]) HR.out ?_ ?_
      · rintro s9 w9 rfl hq9; go_wp2_with fail; exact ⟨rfl, rfl, hq9.sub (by simp)⟩
      intro i53 s53 w53 hi53 HF54 hr; unfold kidC; clear j0 j1 j2 j3 j4; clear HR; have HR := Lib.hid hr; clear hr; obtain ⟨j0, j1, j2, j3, j4⟩ := HF54.b0.t5; have hr := HR.out; clear HR; subst hr; go_wp2_with fail; go_ret; exact ⟨⟨rfl, hi53⟩, HF54.sub (by simp)⟩
    · simp only [NB] at nq49; (try simp only [NM, reduceIte, bt_n] at HR); obtain ⟨q55, eq55⟩ : ∃ q, (t2.bt.kind == 1) = q := ⟨_, rfl⟩; (try simp only [NM, reduceIte, eq55, bt_n] at HR); have hq55 : (t2.kind == 1) = q55 := eq55; (have nq55 : (t2.kind != 1) = !q55 := by rw [bne, hq55]); clear eq55; cases q55
      · simp only [NB] at nq55; (try simp only [NM, reduceIte, bt_n] at HR); obtain ⟨q56, eq56⟩ : ∃ q, (t2.bt.kind == 2) = q := ⟨_, rfl⟩; (try simp only [NM, reduceIte, eq56, bt_n] at HR); have hq56 : (t2.kind == 2) = q56 := eq56; (have nq56 : (t2.kind != 2) = !q56 := by rw [bne, hq56]); clear eq56; cases q56
        · simp only [NB] at nq56; (try simp only [NM, reduceIte, bt_n] at HR); obtain ⟨q57, hq57⟩ : ∃ q, isB t2.bt 5 ⟨#[40]⟩ = q := ⟨_, rfl⟩; have HI57 := Lib.hid (HF6.is 5 ⟨#[40]⟩); rw [HT2.out, hq57] at HI57; (try simp only [NM, reduceIte, hq57, bt_n] at HR); clear hq57; go_wp2_with fail
          with_reducible refine HI57.out.mono ?_
          rintro e w57 ⟨rfl, HF58⟩; clear j0 j1 j2 j3 j4; obtain ⟨j0, j1, j2, j3, j4⟩ := HF58.b0.t5; cases q57
          · (try simp only [NM, reduceIte, bt_n] at HR); obtain ⟨q59, hq59⟩ : ∃ q, isB t2.bt 5 ⟨#[123]⟩ = q := ⟨_, rfl⟩; have HI59 := Lib.hid (HF58.is 5 ⟨#[123]⟩); rw [HT2.out, hq59] at HI59; (try simp only [NM, reduceIte, hq59, bt_n] at HR); clear hq59; go_wp2_with fail
            with_reducible refine HI59.out.mono ?_
            rintro e w59 ⟨rfl, HF60⟩; clear j0 j1 j2 j3 j4; obtain ⟨j0, j1, j2, j3, j4⟩ := HF60.b0.t5; cases q59
            · (try simp only [NM, reduceIte, bt_n] at HR); go_wp2_with fail
              with_reducible refine (HF60.fail' 5 HB.out).mono ?_
              rintro e w61 ⟨rfl, hq⟩; have hq := Lib.hid hq; have hr := HR.out; clear HR; subst hr; clear j0 j1 j2 j3 j4; go_wp2_with fail; exact ⟨rfl, rfl, hq.out.sub (by simp)⟩
            · (try simp only [NM, reduceIte, bt_n] at HR); go_wp2_with fail
              with_reducible refine HF60.tail HIrecord.out HB.out HR.out HO.out ?_ ?_
              · rintro s9 w9 rfl hq9; go_wp2_with fail; exact ⟨rfl, rfl, hq9.sub (by simp)⟩
              rintro a62 s62 e w62 ⟨rfl, hi62⟩ HF63 hr; unfold kidC; clear j0 j1 j2 j3 j4; clear HR; have HR := Lib.hid hr; clear hr; obtain ⟨j0, j1, j2, j3, j4⟩ := HF63.b0.t5; have hr := HR.out; clear HR; subst hr; go_wp2_with fail; go_ret; exact ⟨⟨rfl, hi62⟩, HF63.sub (by simp)⟩
          · (try simp only [NM, reduceIte, bt_n] at HR); go_wp2_with fail
            with_reducible refine HF58.bind HN.out HB.out HR.out HO.out ?_ ?_
            · rintro s9 w9 rfl hq9; go_wp2_with fail; exact ⟨rfl, rfl, hq9.sub (by simp)⟩
            rintro a64 s64 e w64 ⟨u64, rfl, rfl, hwf64⟩ HF65 hr; clear j0 j1 j2 j3 j4; clear HR; have HR := Lib.hid hr; clear hr; obtain ⟨t66, HT66⟩ := hidE (tokT c s64); (try simp only [NM, reduceIte, HT66.out, bt_n] at HR); obtain ⟨j0, j1, j2, j3, j4⟩ := HF65.b0.t5; go_wp2_with fail
            with_reducible refine (HF65.tok).mono ?_
            rintro e w67 ⟨rfl, HF68⟩; rw [HT66.out]; clear j0 j1 j2 j3 j4; obtain ⟨j0, j1, j2, j3, j4⟩ := HF68.b0.t5; obtain ⟨q69, eq69⟩ : ∃ q, (t66.bt.kind == 3) = q := ⟨_, rfl⟩; (try simp only [NM, reduceIte, eq69, bt_n] at HR); have hq69 : (t66.kind == 3) = q69 := eq69; (have nq69 : (t66.kind != 3) = !q69 := by rw [bne, hq69]); clear eq69; cases q69
            · simp only [NB] at nq69; (try simp only [NM, reduceIte, bt_n] at HR); go_wp2_with fail
              with_reducible refine HF68.bind HIexpr.out HB.out HR.out HO.out ?_ ?_
              · rintro s9 w9 rfl hq9; go_wp2_with fail; exact ⟨rfl, rfl, hq9.sub (by simp)⟩
              rintro a70 s70 e w70 ⟨rfl, hi70⟩ HF71 hr; unfold kidC; clear j0 j1 j2 j3 j4; clear HR; have HR := Lib.hid hr; clear hr; obtain ⟨t72, HT72⟩ := hidE (tokT c s70); (try simp only [NM, reduceIte, HT72.out, bt_n] at HR); obtain ⟨j0, j1, j2, j3, j4⟩ := HF71.b0.t5; go_wp2_with fail
              with_reducible refine HF71.bind (HWt.out 5 ⟨#[41]⟩) HB.out HR.out HO.out ?_ ?_
              · rintro s9 w9 rfl hq9; go_wp2_with fail; exact ⟨rfl, rfl, hq9.sub (by simp)⟩
              rintro a73 s73 e w73 ⟨u73, rfl, rfl, hwf73⟩ HF74 hr; clear j0 j1 j2 j3 j4; clear HR; have HR := Lib.hid hr; clear hr; obtain ⟨t75, HT75⟩ := hidE (tokT c s73); (try simp only [NM, reduceIte, HT75.out, bt_n] at HR); obtain ⟨j0, j1, j2, j3, j4⟩ := HF74.b0.t5; have hr := HR.out; clear HR; subst hr; go_wp2_with fail; go_ret; exact ⟨⟨rfl, hi70⟩, HF74.sub (by simp)⟩
            · simp only [NB] at nq69; (try simp only [NM, reduceIte, bt_n] at HR); go_wp2_with fail
              with_reducible refine HF68.bind HN.out HB.out HR.out HO.out ?_ ?_
              · rintro s9 w9 rfl hq9; go_wp2_with fail; exact ⟨rfl, rfl, hq9.sub (by simp)⟩
              rintro a76 s76 e w76 ⟨u76, rfl, rfl, hwf76⟩ HF77 hr; clear j0 j1 j2 j3 j4; clear HR; have HR := Lib.hid hr; clear hr; obtain ⟨t78, HT78⟩ := hidE (tokT c s76); (try simp only [NM, reduceIte, HT78.out, bt_n] at HR); obtain ⟨j0, j1, j2, j3, j4⟩ := HF77.b0.t5; go_upto_region 12 with (fail); obtain ⟨b79, w79, hb79, hw79, HF80⟩ := HF77.boxT 4 u76; rw [hw79, hb79]; clear hw79 hb79; clear j0 j1 j2 j3 j4; obtain ⟨j5, j6, j7, j8, j9⟩ := HF80.b0.t5; obtain ⟨j0, j1, j2, j3, j4⟩ := HF80.b1.t5; go_wp2_with fail
              with_reducible refine HF80.bind (HWt.out 5 ⟨#[41]⟩) HB.out HR.out HO.out ?_ ?_
              · rintro s9 w9 rfl hq9; go_wp2_with fail; exact ⟨rfl, rfl, hq9.sub (by simp)⟩
              rintro a81 s81 e w81 ⟨u81, rfl, rfl, hwf81⟩ HF82 hr; clear j5 j6 j7 j8 j9 j0 j1 j2 j3 j4; clear HR; have HR := Lib.hid hr; clear hr; obtain ⟨t83, HT83⟩ := hidE (tokT c s81); (try simp only [NM, reduceIte, HT83.out, bt_n] at HR); obtain ⟨j5, j6, j7, j8, j9⟩ := HF82.b0.t5; obtain ⟨j0, j1, j2, j3, j4⟩ := HF82.b1.t5; go_wp2_with fail; refine HF82.putT HB.out t2 { kind := 20, text := u76.text } 999 (.slice none 0 0) [.box 4 b79 59 (TC u76), .box 3 b5 59 (TC t2)] (.inl ⟨rfl, rfl⟩) (by simp [Loc.key]) HR.out ?_ ?_
              · rintro s9 w9 rfl hq9; go_wp2_with fail; exact ⟨rfl, rfl, hq9.sub (by simp)⟩
              intro i84 s84 w84 hi84 HF85 hr; unfold kidC; clear j5 j6 j7 j8 j9 j0 j1 j2 j3 j4; clear HR; have HR := Lib.hid hr; clear hr; obtain ⟨j5, j6, j7, j8, j9⟩ := HF85.b0.t5; obtain ⟨j0, j1, j2, j3, j4⟩ := HF85.b1.t5; have hr := HR.out; clear HR; subst hr; go_wp2_with fail; go_ret; exact ⟨⟨rfl, hi84⟩, HF85.sub (by simp)⟩
        · simp only [NB] at nq56; (try simp only [NM, reduceIte, bt_n] at HR); go_wp2_with fail
          with_reducible refine HF6.bind HN.out HB.out HR.out HO.out ?_ ?_
          · rintro s9 w9 rfl hq9; go_wp2_with fail; exact ⟨rfl, rfl, hq9.sub (by simp)⟩
          rintro a86 s86 e w86 ⟨u86, rfl, rfl, hwf86⟩ HF87 hr; clear j0 j1 j2 j3 j4; clear HR; have HR := Lib.hid hr; clear hr; obtain ⟨t88, HT88⟩ := hidE (tokT c s86); (try simp only [NM, reduceIte, HT88.out, bt_n] at HR); obtain ⟨j0, j1, j2, j3, j4⟩ := HF87.b0.t5; go_wp2_with fail; refine HF87.putT HB.out t2 { kind := 21, n := t2.n } 999 (.slice none 0 0) [.box 3 b5 59 (TC t2)] (.inl ⟨rfl, rfl⟩) (by simp [Loc.key]) HR.out ?_ ?_
          · rintro s9 w9 rfl hq9; go_wp2_with fail; exact ⟨rfl, rfl, hq9.sub (by simp)⟩
          intro i89 s89 w89 hi89 HF90 hr; unfold kidC; clear j0 j1 j2 j3 j4; clear HR; have HR := Lib.hid hr; clear hr; obtain ⟨j0, j1, j2, j3, j4⟩ := HF90.b0.t5; have hr := HR.out; clear HR; subst hr; go_wp2_with fail; go_ret; exact ⟨⟨rfl, hi89⟩, HF90.sub (by simp)⟩
      · simp only [NB] at nq55; (try simp only [NM, reduceIte, bt_n] at HR); go_wp2_with fail
        with_reducible refine HF6.bind HN.out HB.out HR.out HO.out ?_ ?_
        · rintro s9 w9 rfl hq9; go_wp2_with fail; exact ⟨rfl, rfl, hq9.sub (by simp)⟩
        rintro a91 s91 e w91 ⟨u91, rfl, rfl, hwf91⟩ HF92 hr; clear j0 j1 j2 j3 j4; clear HR; have HR := Lib.hid hr; clear hr; obtain ⟨t93, HT93⟩ := hidE (tokT c s91); (try simp only [NM, reduceIte, HT93.out, bt_n] at HR); obtain ⟨j0, j1, j2, j3, j4⟩ := HF92.b0.t5; go_wp2_with fail; refine HF92.putT HB.out t2 { kind := 20, text := t2.text } 999 (.slice none 0 0) [.box 3 b5 59 (TC t2)] (.inl ⟨rfl, rfl⟩) (by simp [Loc.key]) HR.out ?_ ?_
        · rintro s9 w9 rfl hq9; go_wp2_with fail; exact ⟨rfl, rfl, hq9.sub (by simp)⟩
        intro i94 s94 w94 hi94 HF95 hr; unfold kidC; clear j0 j1 j2 j3 j4; clear HR; have HR := Lib.hid hr; clear hr; obtain ⟨j0, j1, j2, j3, j4⟩ := HF95.b0.t5; have hr := HR.out; clear HR; subst hr; go_wp2_with fail; go_ret; exact ⟨⟨rfl, hi94⟩, HF95.sub (by simp)⟩
theorem post_step (hS : TokSt c.l) (n : Nat) (hn : n ≤ 1000000) (IH : ExAt c n) : Meth c 168 #[.pointer (some ⟨c.bp, 0, none⟩)] (exprs (c.l.map Tok.bt) (n + 1) .post) vNum := by
  (refine Meth.mk fun E s0 r W HF1 hb hr ho => ?_); have HN := Lib.hid (next_any hS); (have HK := Lib.hid (fun k => kind_any hS k)); (have HWt := Lib.hid (fun k x => want_any hS k x)); have HPm := Lib.hid (param_any hS); have HIatom := Lib.hid IH.atom; simp only [Pa.exprs] at hr; have HB := Lib.hid hb; have HO := Lib.hid ho; clear hb ho; have HR := Lib.hid hr; clear hr; obtain ⟨t2, HT2⟩ := hidE (tokT c s0); (try simp only [NM, reduceIte, HT2.out, bt_n] at HR); have fld0 := fldT0; have fld1 := fldT1; have fld2 := fldT2; go_enter Tryz.func168, Tryz.ntmps168; go_wp2_with fail
  with_reducible refine HF1.bind HIatom.out HB.out HR.out HO.out ?_ ?_
  · rintro s9 w9 rfl hq9; go_wp2_with fail; exact ⟨rfl, rfl, hq9.sub (by simp)⟩
  rintro a3 s3 e w3 ⟨rfl, hi3⟩ HF4 hr; unfold kidC; clear HR; have HR := Lib.hid hr; clear hr; obtain ⟨t5, HT5⟩ := hidE (tokT c s3); (try simp only [NM, reduceIte, HT5.out, bt_n] at HR); have hr := HR.out; clear HR; obtain ⟨F6, g6, hFF6, hGG6, hr⟩ := split_loop (to_bind hr); have HFF6 := Lib.hid hFF6; have HGG6 := Lib.hid hGG6; have HR := Lib.hid hr; clear hr hFF6 hGG6; (have HF7 := HF4.sub (L' := []) (by simp)); clear HF4; go_wp2_with fail; go_loopg [3, 4] n (fun gk xn xm wr => ∃ (s5 : Ps) (a5 m5 : Nat), Fr c E 0 [] s5 wr ∧ xn = .int .i64 (a5 : Int) ∧ a5 < 4096 ∧ xm = .int .i64 (m5 : Int) ∧ m5 ≤ 51 ∧ Hid ((loop F6 gk (a5, m5) >>= g6) s5 = r))
  case atStart => exact ⟨s3, a3, 0, HF7.out, rfl, hi3, rfl, by omega, HR.out⟩
  case round =>
    obtain ⟨w6, rfl⟩ : ∃ w, w = wr := ⟨_, rfl⟩; clear HR HF7; obtain ⟨s6, a6, m6, HF8, rfl, hi6, rfl, hm6, hr⟩ := hrel; obtain _ | mk6 := gk
    · exact absurd (loop_zero hr.out) HO.out
    have HR := Lib.hid (loop_step hr.out HFF6.out); clear hr; (have hmI6 : (m6 : Int) ≤ 51 := by omega); (have hmZ6 : (0 : Int) ≤ (m6 : Int) := by omega); obtain ⟨t9, HT9⟩ := hidE (tokT c s6); (try simp only [NM, reduceIte, HT9.out, bt_n] at HR); obtain ⟨q10, hq10⟩ : ∃ q, isB t9.bt 4 ⟨#[46]⟩ = q := ⟨_, rfl⟩; have HI10 := Lib.hid (HF8.iskey ⟨#[46]⟩); rw [HT9.out, hq10] at HI10; (try simp only [NM, reduceIte, hq10, bt_n] at HR); clear hq10; go_wp2_with fail
    with_reducible refine HI10.out.mono ?_
    rintro e w10 ⟨rfl, HF11⟩; cases q10
    · (try simp only [NM, reduceIte, bt_n] at HR); (try simp only [NM, reduceIte, HGG6.out, bt_n] at HR); (try simp only [NM, reduceIte, HT9.out, bt_n] at HR); have hr := HR.out; clear HR; subst hr; go_wp2_with fail; go_ret; exact ⟨⟨rfl, hi6⟩, HF11.sub (by simp)⟩
    · (try simp only [NM, reduceIte, bt_n] at HR); by_cases h56 : 50 < m6
      · (have hd6 : decide (50 < m6) = true := by simpa using h56); (try simp only [NM, reduceIte, h56, bt_n] at HR); go_wp2_with fail
        with_reducible refine (HF11.fail' 2 HB.out).mono ?_
        rintro e w12 ⟨rfl, hq⟩; have hq := Lib.hid hq; have hr := HR.out; clear HR; subst hr; go_wp2_with fail; exact ⟨rfl, rfl, hq.out.sub (by simp)⟩
      · (have hd6 : decide (50 < m6) = false := by simpa using h56); (try simp only [NM, reduceIte, h56, bt_n] at HR); go_wp2_with fail
        with_reducible refine HF11.bind HN.out HB.out HR.out HO.out ?_ ?_
        · rintro s9 w9 rfl hq9; go_wp2_with fail; exact ⟨rfl, rfl, hq9.sub (by simp)⟩
        rintro a13 s13 e w13 ⟨u13, rfl, rfl, hwf13⟩ HF14 hr; clear HR; have HR := Lib.hid hr; clear hr; obtain ⟨t15, HT15⟩ := hidE (tokT c s13); (try simp only [NM, reduceIte, HT15.out, bt_n] at HR); go_wp2_with fail
        with_reducible refine HF14.bind (HK.out 0) HB.out HR.out HO.out ?_ ?_
        · rintro s9 w9 rfl hq9; go_wp2_with fail; exact ⟨rfl, rfl, hq9.sub (by simp)⟩
        rintro a16 s16 e w16 ⟨u16, rfl, rfl, hwf16⟩ HF17 hr; clear HR; have HR := Lib.hid hr; clear hr; obtain ⟨t18, HT18⟩ := hidE (tokT c s16); (try simp only [NM, reduceIte, HT18.out, bt_n] at HR); go_upto_region 9 with (fail); obtain ⟨b19, w19, hb19, hw19, HF20⟩ := HF17.boxT 5 u16; rw [hw19, hb19]; clear hw19 hb19; obtain ⟨j0, j1, j2, j3, j4⟩ := HF20.b0.t5; go_wp2_with fail; obtain ⟨b21, hb21⟩ : ∃ b, w19.heap.size = b := ⟨_, rfl⟩; obtain ⟨w21, hw21⟩ : ∃ w, w19.alloc (.cells #[.int .i64 (a6 : Int)] 3) = w := ⟨_, rfl⟩; have HF22 := HF20.kid1 97 a6 hi6; rw [hb21, hw21] at HF22; rw [hw21, hb21]; clear hw21 hb21; clear j0 j1 j2 j3 j4; obtain ⟨j0, j1, j2, j3, j4⟩ := HF22.b1.t5; refine HF22.put HB.out u16 { kind := 30, text := u16.text, kids := [a6] } 97 ((.slice (some ⟨b21, 0, none⟩) 1 1)) [.box 5 b19 59 (TC u16)] (.inr List.mem_cons_self) (by simp [Loc.key]) HR.out ?_ ?_
        · rintro s9 w9 rfl hq9; go_wp2_with fail; exact ⟨rfl, rfl, hq9.sub (by simp)⟩
        intro i23 s23 w23 hi23 HF24 hr; unfold kidC; clear j0 j1 j2 j3 j4; clear HR; have HR := Lib.hid hr; clear hr; obtain ⟨t25, HT25⟩ := hidE (tokT c s23); (try simp only [NM, reduceIte, HT25.out, bt_n] at HR); obtain ⟨j0, j1, j2, j3, j4⟩ := HF24.b0.t5; go_wp2_with fail; go_roundg mk6
        case measure => omega
        case rel => exact ⟨s23, i23, m6 + 1, HF24.sub (L' := []) (by simp), rfl, hi23, by go_num, by omega, HR.out⟩
theorem apply_step (hS : TokSt c.l) (n : Nat) (hn : n ≤ 1000000) (IH : ExAt c n) : Meth c 166 #[.pointer (some ⟨c.bp, 0, none⟩)] (exprs (c.l.map Tok.bt) (n + 1) .apply) vNum := by
  (refine Meth.mk fun E s0 r W HF1 hb hr ho => ?_); have HN := Lib.hid (next_any hS); (have HK := Lib.hid (fun k => kind_any hS k)); (have HWt := Lib.hid (fun k x => want_any hS k x)); have HPm := Lib.hid (param_any hS); have HIpost := Lib.hid IH.post; simp only [Pa.exprs] at hr; have HB := Lib.hid hb; have HO := Lib.hid ho; clear hb ho; have HR := Lib.hid hr; clear hr; obtain ⟨t2, HT2⟩ := hidE (tokT c s0); (try simp only [NM, reduceIte, HT2.out, bt_n] at HR); have fld0 := fldT0; have fld1 := fldT1; have fld2 := fldT2; go_enter Tryz.func166, Tryz.ntmps166; go_wp2_with fail
  with_reducible refine (HF1.tok).mono ?_
  rintro e w3 ⟨rfl, HF4⟩; rw [HT2.out]; go_upto_region 2 with (fail); obtain ⟨b5, w5, hb5, hw5, HF6⟩ := HF4.boxT 3 t2; rw [hw5, hb5]; clear hw5 hb5; obtain ⟨j0, j1, j2, j3, j4⟩ := HF6.b0.t5; go_wp2_with fail
  with_reducible refine HF6.bind HIpost.out HB.out HR.out HO.out ?_ ?_
  · rintro s9 w9 rfl hq9; go_wp2_with fail; exact ⟨rfl, rfl, hq9.sub (by simp)⟩
  rintro a7 s7 e w7 ⟨rfl, hi7⟩ HF8 hr; unfold kidC; clear j0 j1 j2 j3 j4; clear HR; have HR := Lib.hid hr; clear hr; obtain ⟨t9, HT9⟩ := hidE (tokT c s7); (try simp only [NM, reduceIte, HT9.out, bt_n] at HR); obtain ⟨j0, j1, j2, j3, j4⟩ := HF8.b0.t5; have hr := HR.out; clear HR; obtain ⟨F10, g10, hFF10, hGG10, hr⟩ := split_loop (to_bind hr); have HFF10 := Lib.hid hFF10; have HGG10 := Lib.hid hGG10; have HR := Lib.hid hr; clear hr hFF10 hGG10; (have HF11 := HF8.sub (L' := [.box 3 b5 59 (TC t2)]) (by simp)); clear HF8; clear j0 j1 j2 j3 j4; go_wp2_with fail; go_loopg [4, 5] n (fun gk xn xm wr => ∃ (s5 : Ps) (a5 m5 : Nat), Fr c E 0 [.box 3 b5 59 (TC t2)] s5 wr ∧ xn = .int .i64 (a5 : Int) ∧ a5 < 4096 ∧ xm = .int .i64 (m5 : Int) ∧ m5 ≤ 51 ∧ Hid ((loop F10 gk (a5, m5) >>= g10) s5 = r))
  case atStart => exact ⟨s7, a7, 0, HF11.out, rfl, hi7, rfl, by omega, HR.out⟩
  case round =>
    obtain ⟨w10, rfl⟩ : ∃ w, w = wr := ⟨_, rfl⟩; clear HR HF11; obtain ⟨s10, a10, m10, HF12, rfl, hi10, rfl, hm10, hr⟩ := hrel; obtain _ | mk10 := gk
    · exact absurd (loop_zero hr.out) HO.out
    have HR := Lib.hid (loop_step hr.out HFF10.out); clear hr; (have hmI10 : (m10 : Int) ≤ 51 := by omega); (have hmZ10 : (0 : Int) ≤ (m10 : Int) := by omega); obtain ⟨t13, HT13⟩ := hidE (tokT c s10); (try simp only [NM, reduceIte, HT13.out, bt_n] at HR); obtain ⟨j0, j1, j2, j3, j4⟩ := HF12.b0.t5; obtain ⟨q14, hq14⟩ : ∃ q, Pa.begins t13.bt = q := ⟨_, rfl⟩; have HI14 := Lib.hid HF12.begins; rw [HT13.out, hq14] at HI14; (try simp only [NM, reduceIte, hq14, bt_n] at HR); clear hq14; go_wp2_with fail
    with_reducible refine HI14.out.mono ?_
    rintro e w14 ⟨rfl, HF15⟩; clear j0 j1 j2 j3 j4; obtain ⟨j0, j1, j2, j3, j4⟩ := HF15.b0.t5; cases q14
    · (try simp only [NM, reduceIte, bt_n] at HR); (try simp only [NM, reduceIte, HGG10.out, bt_n] at HR); (try simp only [NM, reduceIte, HT13.out, bt_n] at HR); have hr := HR.out; clear HR; subst hr; go_wp2_with fail; go_ret; exact ⟨⟨rfl, hi10⟩, HF15.sub (by simp)⟩
    · (try simp only [NM, reduceIte, bt_n] at HR); by_cases h510 : 50 < m10
      · (have hd10 : decide (50 < m10) = true := by simpa using h510); (try simp only [NM, reduceIte, h510, bt_n] at HR); go_wp2_with fail
        with_reducible refine (HF15.fail' 2 HB.out).mono ?_
        rintro e w16 ⟨rfl, hq⟩; have hq := Lib.hid hq; have hr := HR.out; clear HR; subst hr; clear j0 j1 j2 j3 j4; go_wp2_with fail; exact ⟨rfl, rfl, hq.out.sub (by simp)⟩
      · (have hd10 : decide (50 < m10) = false := by simpa using h510); (try simp only [NM, reduceIte, h510, bt_n] at HR); go_wp2_with fail
        with_reducible refine HF15.bind HIpost.out HB.out HR.out HO.out ?_ ?_
        · rintro s9 w9 rfl hq9; go_wp2_with fail; exact ⟨rfl, rfl, hq9.sub (by simp)⟩
        rintro a17 s17 e w17 ⟨rfl, hi17⟩ HF18 hr; unfold kidC; clear j0 j1 j2 j3 j4; clear HR; have HR := Lib.hid hr; clear hr; obtain ⟨t19, HT19⟩ := hidE (tokT c s17); (try simp only [NM, reduceIte, HT19.out, bt_n] at HR); obtain ⟨j0, j1, j2, j3, j4⟩ := HF18.b0.t5; go_wp2_with fail; obtain ⟨b20, hb20⟩ : ∃ b, w17.heap.size = b := ⟨_, rfl⟩; obtain ⟨w20, hw20⟩ : ∃ w, w17.alloc (.cells #[.int .i64 (a10 : Int), .int .i64 (a17 : Int)] 3) = w := ⟨_, rfl⟩; have HF21 := HF18.kid2 97 a10 a17 hi10 hi17; rw [hb20, hw20] at HF21; rw [hw20, hb20]; clear hw20 hb20; clear j0 j1 j2 j3 j4; obtain ⟨j0, j1, j2, j3, j4⟩ := HF21.b1.t5; refine HF21.put HB.out t2 { kind := 23, kids := [a10, a17] } 97 ((.slice (some ⟨b20, 0, none⟩) 2 2)) [.box 3 b5 59 (TC t2)] (.inr List.mem_cons_self) (by simp [Loc.key]) HR.out ?_ ?_
        · rintro s9 w9 rfl hq9; go_wp2_with fail; exact ⟨rfl, rfl, hq9.sub (by simp)⟩
        intro i22 s22 w22 hi22 HF23 hr; unfold kidC; clear j0 j1 j2 j3 j4; clear HR; have HR := Lib.hid hr; clear hr; obtain ⟨t24, HT24⟩ := hidE (tokT c s22); (try simp only [NM, reduceIte, HT24.out, bt_n] at HR); obtain ⟨j0, j1, j2, j3, j4⟩ := HF23.b0.t5; go_wp2_with fail; go_roundg mk10
        case measure => omega
        case rel => exact ⟨s22, i22, m10 + 1, HF23.sub (L' := [.box 3 b5 59 (TC t2)]) (by simp), rfl, hi22, by go_num, by omega, HR.out⟩
end
end Go.Proofs.YtcjoapmodaioiaaGreatDoor
