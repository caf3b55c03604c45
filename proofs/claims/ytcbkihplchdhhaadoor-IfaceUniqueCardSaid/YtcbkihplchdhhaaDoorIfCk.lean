/- iface.Check: what it answers. -/
import Derived.Test.YtcbkihplchdhhaaDoorIfF
import Derived.Test.YtcbkihplchdhhaaDoorIfYt
import Derived.Test.YtcbkihplchdhhaaDoorIfOr
import Derived.Test.YtcbkihplchdhhaaDoorUChk
namespace Go.Proofs.YtcbkihplchdhhaaDoor
open Go.RowKit Go.Shelf

set_option maxHeartbeats 400000 in
theorem check_any (t : Ty) (W : World) (F : Nat → Prop) (av : Value) (hT : TyC W F t av) (hF : ∀ b, F b → b < W.heap.size) (hz : Szs W) :
    Calls Tryd.prog 28 #[.agg #[.int .i64 t.kind, .string t.name, .int .i64 t.var, av]] W fun e w' => e = .returned (.int .i64 (chk t 4096 false 1).1) ∧ Below W.heap.size W w' := by
  obtain ⟨A, c, rfl, _⟩ := hT.form
  obtain ⟨tb, htb⟩ : ∃ tb, W.heap.size = tb := ⟨_, rfl⟩
  obtain ⟨W2, hW2⟩ : ∃ W2, (W.alloc (.cells #[.int .i64 t.kind, .string t.name, .int .i64 t.var, .slice A t.args.length c] 47)).alloc (.cells #[.int .i64 4096] 119) = W2 := ⟨_, rfl⟩
  have hk2 : Keeps (fun _ => False) W W2 := by rw [← hW2]; exact ((Keeps.refl _ _).alloc _).alloc _
  have hc2 : Blk W2 (tb + 1) 119 [.int .i64 4096] := by
    have := Blk.new (W.alloc (.cells #[.int .i64 t.kind, .string t.name, .int .i64 t.var, .slice A t.args.length c] 47)) 119 [.int .i64 4096]
    rw [hW2] at this
    simpa [htb] using this
  have hzl := block_lt_of_cell hz.c0
  have HCk := Lib.hid (chk_all t W2 tb (tb + 1) _ 4096 1 false ((hT.keeps hk2 (fun _ _ h => h)).mono (fun b hb => by have := hF b hb; omega)) hc2 (by dsimp at hzl; omega) (by omega) (hz.keeps hk2 (fun h => h)) (by omega) (by omega) (by omega) (by omega))
  have HW2 := Lib.hid hW2
  have HK2 := Lib.hid hk2
  have HTb := Lib.hid htb
  clear hT hF hz hW2 hk2 hc2 htb hzl
  go_enter Tryd.func28, Tryd.ntmps28
  go_wp2_with fail
  rw [HW2.out, HTb.out]
  with_reducible refine HCk.out.mono ?_
  rintro e w3 ⟨rfl, _, hk3⟩
  have hb3 : Below W.heap.size W w3 := (HK2.out.trans hk3 (fun i hi h => by have := HTb.out; omega)).below (fun _ h => h.elim) (Nat.le_refl _)
  have HB3 := Lib.hid hb3
  clear hk3 hb3
  go_wp2_with fail
  go_ret
  exact ⟨rfl, HB3.out⟩
namespace If
/-- The first fault among types. -/
def firstBad : List Ty → Int
  | [] => 0
  | t :: l => if (chk t 4096 false 1).1 = 0 then firstBad l else (chk t 4096 false 1).1
theorem firstBad_step (l : List Ty) (j : Nat) (h : j < l.length) : firstBad (l.drop j) = if (chk l[j] 4096 false 1).1 = 0 then firstBad (l.drop (j + 1)) else (chk l[j] 4096 false 1).1 := by
  rw [List.drop_eq_getElem_cons h, firstBad]
/-- What Check answers. -/
def checkP (f : Iface) : Int := if firstBad (typesP f) = 0 then (if rangesP f = true then (if orderedP f = true then (if 1048576 < (faceW f).length then 2 else 0) else 3) else 4) else firstBad (typesP f)
section
variable {α β γ : Type}
theorem flat_mono (g : α → List β) (h : α → List γ) (hg : ∀ x, (g x).length ≤ (h x).length) : ∀ l : List α, (l.flatMap g).length ≤ (l.flatMap h).length
  | [] => by simp
  | x :: l => by
    have := hg x
    have := flat_mono g h hg l
    simp only [List.flatMap_cons, List.length_append]; omega
theorem map_mono (h : α → List γ) (hg : ∀ x, 1 ≤ (h x).length) : ∀ l : List α, l.length ≤ (l.flatMap h).length
  | [] => by simp
  | x :: l => by
    have := hg x
    have := map_mono h hg l
    simp only [List.flatMap_cons, List.length_append, List.length_cons]; omega
theorem eachW_len (g : α → Bs) (l : List α) : (eachW g l).length = 4 + (l.flatMap g).length := by unfold eachW; rw [List.length_append, enc4_len]
end
theorem typW_pos (t : Ty) : 1 ≤ (typW t).length := by rw [typW_eq]; simp only [List.length_append, enc4_len]; omega
theorem conT_len (c : ConSig) : c.args.length ≤ (conW c).length := by
  have := map_mono typW typW_pos c.args
  unfold conW; rw [List.length_append, eachW_len]; omega
theorem dataT_len (d : DataSig) : (dataT d).length ≤ (dataW d).length := by
  have := flat_mono ConSig.args conW conT_len d.cons
  unfold dataT dataW; rw [List.length_append, eachW_len]; omega
theorem predT_len (l : List Pred) : l.length ≤ (l.flatMap predW).length := map_mono predW (fun p => by unfold predW; rw [List.length_append, textW_len]; omega) l
theorem valT_len (o : ValSig) : (valT o).length ≤ (valW o).length := by
  have := predT_len o.preds
  have := typW_pos o.ty
  unfold valT schemeP valW; simp only [List.length_append, List.length_cons, List.length_map, eachW_len, enc4_len]; omega
theorem classT_len (c : ClassSig) : (classT c).length ≤ (classW c).length := by
  have := flat_mono valT valW valT_len c.ops
  unfold classT classW; simp only [List.length_append, eachW_len]; omega
theorem opT_len (o : OpSig) : (opT o).length ≤ (opW o).length := by
  have := typW_pos o.arg
  have := typW_pos o.res
  unfold opT opW; simp only [List.length_append, List.length_cons, List.length_nil]; omega
theorem instT_len (x : InstSig) : (instT x).length ≤ (instW x).length := by
  have := predT_len x.preds
  have := typW_pos x.head
  unfold instT instW; simp only [List.length_append, List.length_cons, List.length_map, eachW_len]; omega
theorem types_len (f : Iface) : (typesP f).length ≤ (faceW f).length := by
  have := flat_mono dataT dataW dataT_len f.datas
  have := flat_mono classT classW classT_len f.classes
  have := flat_mono opT opW opT_len f.ops
  have := flat_mono valT valW valT_len f.vals
  have := flat_mono instT instW instT_len f.insts
  unfold typesP faceW; simp only [List.length_append, eachW_len]; omega
set_option maxRecDepth 100000 in
set_option maxHeartbeats 16000000 in
theorem Check_any (W : World) (f : Iface) (F : Nat → Prop) (cs : List Value) (h : Rp W F f.d cs) (hF : ∀ b, F b → b < W.heap.size) (hz : Szs W) (hn : (faceW f).length ≤ 4194304) :
    Calls Tryd.prog 8 #[.agg cs.toArray] W fun e w' => e = .returned (.int .i64 (checkP f)) ∧ Keeps (fun _ => False) W w' := by
  have hR := h
  obtain ⟨v1, v2, v3, v4, v5, v6, v7, rfl, -, s1, s2, s3, s4, s5, s6, s7⟩ := Iface.rp.1 h
  obtain ⟨A1, q1, rfl, -, -, -⟩ := s1.form
  obtain ⟨A2, q2, rfl, -, -, -⟩ := s2.form
  obtain ⟨A3, q3, rfl, -, -, -⟩ := s3.form
  obtain ⟨A4, q4, rfl, -, -, -⟩ := s4.form
  obtain ⟨A5, q5, rfl, -, -, -⟩ := s5.form
  obtain ⟨A6, q6, rfl, -, -, -⟩ := s6.form
  obtain ⟨A7, q7, rfl, -, -, -⟩ := s7.form
  obtain ⟨b0, hb0⟩ : ∃ b, W.heap.size = b := ⟨_, rfl⟩
  obtain ⟨W0, hW0⟩ : ∃ W0, W.alloc (.cells #[.string f.module, .slice A1 f.imports.length q1, .slice A2 f.fixes.length q2, .slice A3 f.datas.length q3, .slice A4 f.classes.length q4, .slice A5 f.insts.length q5, .slice A6 f.ops.length q6, .slice A7 f.vals.length q7] 33) = W0 := ⟨_, rfl⟩
  have hkw : Keeps (fun _ => False) W W0 := by rw [← hW0]; exact (Keeps.refl _ _).alloc _
  have hbx : Blk W0 b0 33 [.string f.module, .slice A1 f.imports.length q1, .slice A2 f.fixes.length q2, .slice A3 f.datas.length q3, .slice A4 f.classes.length q4, .slice A5 f.insts.length q5, .slice A6 f.ops.length q6, .slice A7 f.vals.length q7] := by rw [← hW0, ← hb0]; exact Blk.new W _ [_, _, _, _, _, _, _, _]
  have hR0 := hR.keeps hkw (fun _ _ h => h)
  have hz0 := hz.keeps hkw (fun h => h)
  have hF0 : ∀ b, F b → b < W0.heap.size := fun b hb => Nat.lt_of_lt_of_le (hF b hb) hkw.size
  have hbl := hbx.lt
  have HTy := Lib.hid (types_any W0 f F [.string f.module, .slice A1 f.imports.length q1, .slice A2 f.fixes.length q2, .slice A3 f.datas.length q3, .slice A4 f.classes.length q4, .slice A5 f.insts.length q5, .slice A6 f.ops.length q6, .slice A7 f.vals.length q7] hR0 hF0 (Nat.le_trans (types_len f) hn))
  have HRg : Hid (∀ X, Keeps (fun _ => False) W0 X → Calls Tryd.prog 29 #[.agg #[.string f.module, .slice A1 f.imports.length q1, .slice A2 f.fixes.length q2, .slice A3 f.datas.length q3, .slice A4 f.classes.length q4, .slice A5 f.insts.length q5, .slice A6 f.ops.length q6, .slice A7 f.vals.length q7]] X fun e w' => e = .returned (.bool (rangesP f)) ∧ Below X.heap.size X w') := fun X hX => ranges_any X f F [.string f.module, .slice A1 f.imports.length q1, .slice A2 f.fixes.length q2, .slice A3 f.datas.length q3, .slice A4 f.classes.length q4, .slice A5 f.insts.length q5, .slice A6 f.ops.length q6, .slice A7 f.vals.length q7] (hR0.keeps hX (fun _ _ h => h))
  have HOr : Hid (∀ X, Keeps (fun _ => False) W0 X → Calls Tryd.prog 30 #[.agg #[.string f.module, .slice A1 f.imports.length q1, .slice A2 f.fixes.length q2, .slice A3 f.datas.length q3, .slice A4 f.classes.length q4, .slice A5 f.insts.length q5, .slice A6 f.ops.length q6, .slice A7 f.vals.length q7]] X fun e w' => e = .returned (.bool (orderedP f)) ∧ Below X.heap.size X w') := fun X hX => ordered_any X f F [.string f.module, .slice A1 f.imports.length q1, .slice A2 f.fixes.length q2, .slice A3 f.datas.length q3, .slice A4 f.classes.length q4, .slice A5 f.insts.length q5, .slice A6 f.ops.length q6, .slice A7 f.vals.length q7] (hR0.keeps hX (fun _ _ h => h))
  have HBx : Hid (∀ X, Keeps (fun _ => False) W0 X → Blk X b0 33 [.string f.module, .slice A1 f.imports.length q1, .slice A2 f.fixes.length q2, .slice A3 f.datas.length q3, .slice A4 f.classes.length q4, .slice A5 f.insts.length q5, .slice A6 f.ops.length q6, .slice A7 f.vals.length q7]) := fun X hX => hbx.keeps hX (fun h => h)
  have HSz : Hid (∀ X, Keeps (fun _ => False) W0 X → Szs X) := fun X hX => hz0.keeps hX (fun h => h)
  have HR := Lib.hid hR0
  have HF := Lib.hid hF0
  have HN := Lib.hid hn
  have HK := Lib.hid hkw
  have HW0 := Lib.hid hW0
  have HB0 := Lib.hid hb0
  have HBl := Lib.hid hbl
  obtain ⟨L, hL⟩ : ∃ L, typesP f = L := ⟨_, rfl⟩
  obtain ⟨rg, hrg⟩ : ∃ r, rangesP f = r := ⟨_, rfl⟩
  obtain ⟨od, hod⟩ : ∃ r, orderedP f = r := ⟨_, rfl⟩
  have hP : checkP f = if firstBad L = 0 then (if rg = true then (if od = true then (if 1048576 < (faceW f).length then 2 else 0) else 3) else 4) else firstBad L := by rw [← hL, ← hrg, ← hod]; rfl
  rw [hL] at HTy
  rw [hrg] at HRg
  rw [hod] at HOr
  have HP := Lib.hid hP
  have x0 := hbx.cell (i := 0) rfl
  have x1 := hbx.cell (i := 1) rfl
  have x2 := hbx.cell (i := 2) rfl
  have x3 := hbx.cell (i := 3) rfl
  have x4 := hbx.cell (i := 4) rfl
  have x5 := hbx.cell (i := 5) rfl
  have x6 := hbx.cell (i := 6) rfl
  have x7 := hbx.cell (i := 7) rfl
  clear h hR hF hz hn hb0 hW0 hkw hbx hR0 hz0 hF0 hbl hL hrg hod hP s1 s2 s3 s4 s5 s6 s7
  go_enter Tryd.func8, Tryd.ntmps8
  go_upto_region 1 with (fail)
  rw [HW0.out, HB0.out]
  go_wp2_with fail
  refine HTy.out.mono ?_
  rintro e w1 ⟨v, rfl, hSl, hk1⟩
  obtain ⟨Av, cv, rfl, hlc, hcm, -⟩ := hSl.form
  have hll : L.length ≤ 9223372036854775807 := by unfold maxLen at hcm; omega
  have HSl := Lib.hid hSl
  have HK1 := Lib.hid hk1
  clear hSl hk1 hlc hcm x0 x1 x2 x3 x4 x5 x6 x7
  go_wp2_with fail
  go_loopw [10] (fun i wr => ∃ j : Nat, j ≤ L.length ∧ .int .i64 (j : Int) = i ∧ Hid (Keeps (fun _ => False) w1 wr) ∧ Hid (firstBad L = firstBad (L.drop j))) (fun i _ => L.length - (intOf i).toNat)
  case atStart => exact ⟨0, Nat.zero_le _, rfl, Keeps.refl _ _, rfl⟩
  case round =>
    obtain ⟨j, hj, rfl, hk, hno⟩ := hrel
    by_cases hlt : j < L.length
    · obtain ⟨gg, off, va, hA, -, c0, c1, c2, c3, hC⟩ := tyD.get (HSl.out.keeps hk.out (fun _ _ h => h)) hlt
      have hst := firstBad_step L j hlt
      obtain ⟨t, ht⟩ : ∃ t, L[j] = t := ⟨_, rfl⟩
      rw [ht] at c0 c1 c2 hC hst
      obtain ⟨Aa, ca, rfl, -, -, -⟩ := hC.form
      subst hA
      have k0 : (0 : Int) ≤ (j : Int) := by omega
      have k1 : (j : Int) < (L.length : Int) := by omega
      obtain ⟨bq, hbq⟩ : ∃ b, wr.heap.size = b := ⟨_, rfl⟩
      obtain ⟨W2, hW2⟩ : ∃ w, wr.alloc (.cells #[.int .i64 t.kind, .string t.name, .int .i64 t.var, .slice Aa t.args.length ca] 47) = w := ⟨_, rfl⟩
      have hk2 : Keeps (fun _ => False) wr W2 := by rw [← hW2]; exact (Keeps.refl _ _).alloc _
      have hb2 : Blk W2 bq 47 [.int .i64 t.kind, .string t.name, .int .i64 t.var, .slice Aa t.args.length ca] := by rw [← hW2, ← hbq]; exact Blk.new wr _ [_, _, _, _]
      have y0 := hb2.cell (i := 0) rfl
      have y1 := hb2.cell (i := 1) rfl
      have y2 := hb2.cell (i := 2) rfl
      have y3 := hb2.cell (i := 3) rfl
      have hkk : Keeps (fun _ => False) W0 W2 := (HK1.out.trans hk.out (fun _ _ h => h)).trans hk2 (fun _ _ h => h)
      have HCk := Lib.hid (check_any t W2 (fun b => b < w1.heap.size) _ (hC.keeps hk2 (fun _ _ h => h)) (fun b hb => Nat.lt_of_lt_of_le hb (hk.out.trans hk2 (fun _ _ h => h)).size) (HSz.out _ hkk))
      have HK2 := Lib.hid (hk.out.trans hk2 (fun _ _ h => h))
      have HSt := Lib.hid hst
      have HW2 := Lib.hid hW2
      have HBq := Lib.hid hbq
      obtain ⟨r, hr⟩ : ∃ r, (chk t 4096 false 1).1 = r := ⟨_, rfl⟩
      rw [hr] at HCk HSt
      clear hst ht hC hbq hW2 hk2 hb2 hkk hk hr
      go_upto_region 4 with (fail)
      rw [HW2.out, HBq.out]
      clear c0 c1 c2 c3
      go_wp2_with fail
      refine HCk.out.mono ?_
      rintro e w3 ⟨rfl, hb3⟩
      have HK3 : Hid (Keeps (fun _ => False) w1 w3) := HK2.out.trans (Keeps.of_below (X := fun _ => False) hb3) (fun _ _ h => h)
      clear hb3 y0 y1 y2 y3 HCk
      by_cases h0 : r = 0
      · subst h0
        have HE : Hid (firstBad L = firstBad (L.drop (j + 1))) := hno.out.trans (by rw [HSt.out, if_pos rfl])
        go_wp2_with fail
        go_roundw
        case rel => exact ⟨j + 1, by omega, by go_num, HK3.out, HE.out⟩
        case measure => simp [intOf]; omega
      · have HE : Hid (firstBad L = r) := hno.out.trans (by rw [HSt.out, if_neg h0])
        have HV : Hid (checkP f = r) := by have h := HP.out; rw [HE.out, if_neg h0] at h; exact h
        go_wp2_with fail
        go_ret
        exact ⟨by rw [HV.out]; rfl, (HK.out.trans HK1.out (fun _ _ h => h)).trans HK3.out (fun _ _ h => h)⟩
    · obtain rfl : j = L.length := by omega
      have k1 : ¬ ((L.length : Nat) : Int) < (L.length : Int) := by omega
      have HE : Hid (firstBad L = 0) := hno.out.trans (by rw [List.drop_length]; rfl)
      have HP1 : Hid (checkP f = (if rg = true then (if od = true then (if 1048576 < (faceW f).length then 2 else 0) else 3) else 4)) := by have h := HP.out; rw [HE.out, if_pos rfl] at h; exact h
      have HKr : Hid (Keeps (fun _ => False) W0 wr) := HK1.out.trans hk.out (fun _ _ h => h)
      clear hk hno HSl
      have x0 := (HBx.out _ HKr.out).cell (i := 0) rfl
      have x1 := (HBx.out _ HKr.out).cell (i := 1) rfl
      have x2 := (HBx.out _ HKr.out).cell (i := 2) rfl
      have x3 := (HBx.out _ HKr.out).cell (i := 3) rfl
      have x4 := (HBx.out _ HKr.out).cell (i := 4) rfl
      have x5 := (HBx.out _ HKr.out).cell (i := 5) rfl
      have x6 := (HBx.out _ HKr.out).cell (i := 6) rfl
      have x7 := (HBx.out _ HKr.out).cell (i := 7) rfl
      go_wp2_with fail
      refine (HRg.out _ HKr.out).mono ?_
      rintro e w4 ⟨rfl, hb4⟩
      have HK4 : Hid (Keeps (fun _ => False) W0 w4) := HKr.out.trans (Keeps.of_below (X := fun _ => False) hb4) (fun _ _ h => h)
      clear hb4 x0 x1 x2 x3 x4 x5 x6 x7
      cases rg
      · have HV : Hid (checkP f = 4) := by have h := HP1.out; rw [if_neg (by decide)] at h; exact h
        go_wp2_with fail
        go_ret
        exact ⟨by rw [HV.out]; rfl, HK.out.trans HK4.out (fun _ _ h => h)⟩
      · have HP2 : Hid (checkP f = (if od = true then (if 1048576 < (faceW f).length then 2 else 0) else 3)) := by have h := HP1.out; rw [if_pos rfl] at h; exact h
        have x0 := (HBx.out _ HK4.out).cell (i := 0) rfl
        have x1 := (HBx.out _ HK4.out).cell (i := 1) rfl
        have x2 := (HBx.out _ HK4.out).cell (i := 2) rfl
        have x3 := (HBx.out _ HK4.out).cell (i := 3) rfl
        have x4 := (HBx.out _ HK4.out).cell (i := 4) rfl
        have x5 := (HBx.out _ HK4.out).cell (i := 5) rfl
        have x6 := (HBx.out _ HK4.out).cell (i := 6) rfl
        have x7 := (HBx.out _ HK4.out).cell (i := 7) rfl
        go_wp2_with fail
        refine (HOr.out _ HK4.out).mono ?_
        rintro e w5 ⟨rfl, hb5⟩
        have HK5 : Hid (Keeps (fun _ => False) W0 w5) := HK4.out.trans (Keeps.of_below (X := fun _ => False) hb5) (fun _ _ h => h)
        clear hb5 x0 x1 x2 x3 x4 x5 x6 x7
        cases od
        · have HV : Hid (checkP f = 3) := by have h := HP2.out; rw [if_neg (by decide)] at h; exact h
          go_wp2_with fail
          go_ret
          exact ⟨by rw [HV.out]; rfl, HK.out.trans HK5.out (fun _ _ h => h)⟩
        · have HP3 : Hid (checkP f = (if 1048576 < (faceW f).length then 2 else 0)) := by have h := HP2.out; rw [if_pos rfl] at h; exact h
          obtain ⟨bw, hbw⟩ : ∃ b, w5.heap.size = b := ⟨_, rfl⟩
          obtain ⟨W6, hW6⟩ : ∃ w, w5.alloc (.cells #[.slice none 0 0] 43) = w := ⟨_, rfl⟩
          have hk6 : Keeps (fun _ => False) W0 W6 := by rw [← hW6]; exact HK5.out.alloc _
          have hb6 : Blk W6 bw 43 [.slice none 0 0] := by rw [← hW6, ← hbw]; exact Blk.new w5 _ [_]
          have hBB : W0.heap.size ≤ bw := by rw [← hbw]; exact HK5.out.size
          have hlo : ∀ i, Own2 bw (.slice none 0 0) i → W0.heap.size ≤ i := fun i hi => by
            rcases hi with h | h
            · omega
            · cases h
          have hw0 : WrAt W6 W0.heap.size bw (.slice none 0 0) [] := ⟨hb6, ⟨rfl, .inl ⟨rfl, rfl⟩⟩⟩
          have HFc := Lib.hid (wface_fn W6 W0.heap.size bw (.slice none 0 0) hBB hlo f F [.string f.module, .slice A1 f.imports.length q1, .slice A2 f.fixes.length q2, .slice A3 f.datas.length q3, .slice A4 f.classes.length q4, .slice A5 f.insts.length q5, .slice A6 f.ops.length q6, .slice A7 f.vals.length q7] W6 [] (HR.out.keeps hk6 (fun _ _ h => h)) HF.out hw0.to (by rw [List.length_nil]; have := HN.out; omega))
          have hbx6 := HBx.out _ hk6
          have x0 := hbx6.cell (i := 0) rfl
          have x1 := hbx6.cell (i := 1) rfl
          have x2 := hbx6.cell (i := 2) rfl
          have x3 := hbx6.cell (i := 3) rfl
          have x4 := hbx6.cell (i := 4) rfl
          have x5 := hbx6.cell (i := 5) rfl
          have x6 := hbx6.cell (i := 6) rfl
          have x7 := hbx6.cell (i := 7) rfl
          have HK6 := Lib.hid hk6
          have HLo := Lib.hid hlo
          have HW6 := Lib.hid hW6
          have HBw := Lib.hid hbw
          clear hk6 hb6 hlo hw0 hW6 hbw hbx6
          go_upto_region 13 with (fail)
          rw [HW6.out, HBw.out]
          go_wp2_with fail
          refine HFc.out.mono ?_
          rintro e w7 ⟨rfl, v7', hw7, hk7, -⟩
          rw [List.nil_append] at hw7
          obtain ⟨A7', c7, rfl⟩ := row_form hw7.row
          have z0 := hw7.box.cell (i := 0) rfl
          have HK7 : Hid (Keeps (fun _ => False) W w7) := (HK.out.trans HK6.out (fun _ _ h => h)).trans hk7 (fun i hi h => by have := HLo.out i h; have := HK.out.size; omega)
          clear hw7 hk7 x0 x1 x2 x3 x4 x5 x6 x7
          by_cases hm : 1048576 < (faceW f).length
          · have HV : Hid (checkP f = 2) := by have h := HP3.out; rw [if_pos hm] at h; exact h
            have k2 : (1048576 : Int) < ((faceW f).length : Int) := by omega
            go_wp2_with fail
            go_ret
            exact ⟨by rw [HV.out]; rfl, HK7.out⟩
          · have HV : Hid (checkP f = 0) := by have h := HP3.out; rw [if_neg hm] at h; exact h
            have k2 : decide ((1048576 : Int) < ((faceW f).length : Int)) = false := decide_eq_false (by omega)
            clear hm
            go_wp2_with fail
            go_ret
            exact ⟨by rw [HV.out]; rfl, HK7.out⟩
end If
end Go.Proofs.YtcbkihplchdhhaaDoor
