/- classes.Instances. -/
import Derived.Test.YtdljlpogljjldaaDoorCCheck
import Derived.Test.YtdljlpogljjldaaDoorCHead
import Derived.Deep.QuietTactic
import Derived.BigQuiet
import Derived.Deep.RegionHeld3
namespace Go.Proofs.YtdljlpogljjldaaDoor
open Go.RowKit Go.Shelf Go.Sort

theorem instsErr_step (l : List ClassSig) (s : List InstSig) (k : Nat) (h : k < s.length) : instsErr l (s.take k) (s.drop k) = if instErr l (s.take k) s[k] ≠ 0 then instErr l (s.take k) s[k] else instsErr l (s.take (k + 1)) (s.drop (k + 1)) := by
  rw [List.drop_eq_getElem_cons h, instsErr, List.take_succ_eq_append_getElem h]
theorem predsErr_step (l : List ClassSig) (x : InstSig) (s : List Pred) (k : Nat) (h : k < s.length) : predsErr l x (s.drop k) = if (findC l s[k].cls).isSome = false then 6 else if s[k].ty.kind ≠ 0 ∨ intIn (freeP x.head) s[k].ty.var = false then 3 else predsErr l x (s.drop (k + 1)) := by
  rw [List.drop_eq_getElem_cons h, predsErr]
set_option maxRecDepth 100000 in
set_option maxHeartbeats 8000000 in
theorem instances_any (l : List ClassSig) (s : List InstSig) (v u : Value) (F : Nat → Prop) (W : World) (hv : Sl W F ClassSig.d l v) (hu : Sl W F InstSig.d s u) (hF : ∀ b, F b → b < W.heap.size) (hz : Szs W) :
    Calls Tryd.prog 19 #[v, u] W fun e w' => e = .returned (.int .i64 (instC l s)) ∧ Keeps (fun _ => False) W w' := by
  obtain ⟨A, c, rfl, hlc, hcm, _⟩ := hv.form
  obtain ⟨B, d, rfl, hld, hdm, _⟩ := hu.form
  have hl : s.length ≤ 9223372036854775807 := by unfold maxLen at hdm; omega
  have hd63 : (d : Int) ≤ 9223372036854775807 := by unfold maxLen at hdm; omega
  have HV := Lib.hid hv
  have HU := Lib.hid hu
  have HF := Lib.hid hF
  have HZ := Lib.hid hz
  have HCk := Lib.hid (classesCheck l _ F W hv hF)
  clear hv hu hF hz hcm hdm
  by_cases hck : checkC l = 0
  · rw [hck] at HCk
    have HE0 : Hid (instC l s = if 4096 < s.length then 2 else instsErr l [] s) := by show _ = _; rw [instC, if_neg (by rw [hck]; simp)]
    clear hck
    go_enter Tryd.func19, Tryd.ntmps19
    go_wp2_with fail
    with_reducible refine HCk.out.mono ?_
    rintro e w1 ⟨rfl, hk1⟩
    have HK1 := Lib.hid hk1
    clear hk1
    by_cases hbig : 4096 < s.length
    · have hb : (4096 : Int) < (s.length : Int) := by omega
      have HE : Hid (instC l s = 2) := by show _ = _; rw [HE0.out, if_pos hbig]
      clear hbig
      go_wp2_with fail
      go_ret
      exact ⟨ret_int HE.out.symm, HK1.out⟩
    have hb : ¬ (4096 : Int) < (s.length : Int) := by omega
    have HE1 : Hid (instC l s = instsErr l [] s) := by show _ = _; rw [HE0.out, if_neg hbig]
    clear hbig HE0
    go_wp2_with fail
    go_loopw [25] (fun i wr => ∃ k : Nat, k ≤ s.length ∧ .int .i64 (k : Int) = i ∧ Keeps (fun _ => False) W wr ∧ Hid (instsErr l [] s = instsErr l (s.take k) (s.drop k))) (fun i _ => s.length - (intOf i).toNat)
    case atStart => exact ⟨0, Nat.zero_le _, rfl, HK1.out, rfl⟩
    case round =>
      clear HK1
      obtain ⟨k, hk, rfl, hkr, hno⟩ := hrel
      obtain ⟨wx, hwx⟩ : ∃ wx, wx = wr := ⟨_, rfl⟩
      rw [← hwx] at hkr ⊢
      clear hwx
      have HKR := Lib.hid hkr
      by_cases hlt : k < s.length
      · have hst := instsErr_step l s k hlt
        obtain ⟨g, off, v1, v2, hadr, hg, c0, c1, c2, c3, c4, c5, _, hTh, hPs⟩ := InstSig.get (HU.out.keeps hkr (fun _ _ h => h)) hlt
        obtain rfl := hadr
        obtain ⟨A1, q1, rfl, hq1, hq2, _⟩ := hTh.form
        obtain ⟨A2, q2, rfl, hp1, hp2, _⟩ := hPs.form
        obtain ⟨x, hx⟩ : ∃ x, s[k] = x := ⟨_, rfl⟩
        rw [hx] at hst c0 c1 c2 c3 c4 c5 hTh hPs hp1
        have hpl63 : (x.preds.length : Int) ≤ 9223372036854775807 := by unfold maxLen at hp2; omega
        obtain ⟨b7, hb7⟩ : ∃ b7, wx.heap.size = b7 := ⟨_, rfl⟩
        obtain ⟨W7, hW7⟩ : ∃ W7, wx.alloc (.cells #[.string x.cls, .int .i64 x.head.kind, .string x.head.name, .int .i64 x.head.var, .slice A1 x.head.args.length q1, .slice A2 x.preds.length q2] 71) = W7 := ⟨_, rfl⟩
        have hk7 : Keeps (fun _ => False) wx W7 := by rw [← hW7]; exact (Keeps.refl _ _).alloc _
        have hB7 : Blk W7 b7 71 [.string x.cls, .int .i64 x.head.kind, .string x.head.name, .int .i64 x.head.var, .slice A1 x.head.args.length q1, .slice A2 x.preds.length q2] := by rw [← hW7, ← hb7]; exact Blk.new wx _ [_, _, _, _, _, _]
        have hkW7 := hkr.trans hk7 (fun _ _ h => h)
        have hsW7 := hkW7.size
        have hF7 : ∀ b, F b → b < W7.heap.size := fun b hb => by have := HF.out b hb; omega
        have hV7 := HV.out.keeps hkW7 (fun _ _ h => h)
        have hU7 := HU.out.keeps hkW7 (fun _ _ h => h)
        have hZ7 := HZ.out.keeps hkW7 (fun h => h)
        have hT7 := hTh.keeps hk7 (fun _ _ h => h)
        have hP7 := hPs.keeps hk7 (fun _ _ h => h)
        have HFi : Hid (∀ X n, Keeps (fun _ => False) W7 X → Calls Tryd.prog 14 #[.slice A l.length c, .string n] X (FindRet l n F X)) := fun X n hk => find_any l n _ F X (hV7.keeps hk (fun _ _ h => h)) (fun b hb => by have := hF7 b hb; have := hk.size; omega)
        obtain ⟨rc, hrc⟩ : ∃ rc, (chk x.head 4096 false 1).1 = rc := ⟨_, rfl⟩
        have HCh : Hid (∀ X, Keeps (fun _ => False) W7 X → Calls Tryd.prog 11 #[.agg #[.int .i64 x.head.kind, .string x.head.name, .int .i64 x.head.var, .slice A1 x.head.args.length q1]] X (fun e w' => e = .returned (.int .i64 rc) ∧ Keeps (fun _ => False) W7 w')) := fun X hk =>
          (check_any x.head X F _ (hT7.keeps hk (fun _ _ h => h)) (fun b hb => by have := hF7 b hb; have := hk.size; omega) (hZ7.keeps hk (fun h => h))).mono fun e w' ⟨he, hb⟩ => ⟨by rw [he, hrc], hk.trans (Keeps.of_below (X := fun _ => False) hb) (fun _ _ h => h)⟩
        have HHd : Hid (∀ X, Keeps (fun _ => False) W7 X → Calls Tryd.prog 27 #[.agg #[.int .i64 x.head.kind, .string x.head.name, .int .i64 x.head.var, .slice A1 x.head.args.length q1]] X (fun e w' => e = .returned (.bool (headed x.head)) ∧ Keeps (fun _ => False) W7 w')) := fun X hk =>
          (headed_any x.head _ F X (hT7.keeps hk (fun _ _ h => h)) (fun b hb => by have := hF7 b hb; have := hk.size; omega)).mono fun e w' ⟨he, hb⟩ => ⟨he, hk.trans hb (fun _ _ h => h)⟩
        have HFr : Hid (rc = 0 → ∀ X, Keeps (fun _ => False) W7 X → Calls Tryd.prog 29 #[.agg #[.int .i64 x.head.kind, .string x.head.name, .int .i64 x.head.var, .slice A1 x.head.args.length q1]] X (fun e w' => ∃ A c, e = .returned (.slice A (freeP x.head).length c) ∧ Sl w' (fun _ => True) dInt (freeP x.head) (.slice A (freeP x.head).length c) ∧ Keeps (fun _ => False) X w')) := fun h0 X hk => by
          have hn : nodes x.head ≤ 1048576 := by have h1 := hrc.trans h0; have := (chk_fine x.head _ _ _ h1).1; have := (chk_bound x.head 4096 false 1).2 h1; omega
          refine (free_any x.head X F _ (hT7.keeps hk (fun _ _ h => h)) hn).mono ?_
          rintro e w' ⟨u, he, hb, hS⟩
          obtain ⟨A', c', rfl, _⟩ := hS.form
          exact ⟨A', c', he, hS.mono (fun _ _ => trivial), Keeps.of_below (X := fun _ => False) hb⟩
        obtain ⟨q, hq⟩ : ∃ q, (s.take k).any (fun y => decide (y.cls = x.cls) && decide (y.head.name = x.head.name)) = q := ⟨_, rfl⟩
        have HCF : Hid (∀ X, Keeps (fun _ => False) W7 X → Calls Tryd.prog 30 #[.slice (some ⟨g, off, none⟩) k d, .func (.func 31) #[] #[.pointer (some ⟨b7, 0, none⟩)]] X (fun e w' => e = .returned (.bool q) ∧ Keeps (fun _ => False) W7 w')) := fun X hx2 => by
          have hv2 := Sl.take (hU7.keeps hx2 (fun _ _ h => h)) (i := k) (by omega)
          have hbx := hB7.keeps hx2 (fun h => h)
          have h0 := hbx.cell (i := 0) rfl
          have h2 := hbx.cell (i := 2) rfl
          refine (instContainsFunc (s.take k) _ F X hv2 31 #[.pointer (some ⟨b7, 0, none⟩)] (fun y => decide (y.cls = x.cls) && decide (y.head.name = x.head.name)) (enters_of Tryd.func31 (by kernel_rfl) rfl) (fun i h cs w1 hb1 hr => insts_clo _ _ _ F w1 b7 cs ((hb1.cell (block_lt_of_cell h0)).trans h0) ((hb1.cell (block_lt_of_cell h2)).trans h2) hr)).mono ?_
          rintro e w' ⟨he, hb⟩
          exact ⟨by rw [he, hq], hx2.trans (Keeps.of_below (X := fun _ => False) hb) (fun _ _ h => h)⟩
        have HNO := Lib.hid (hno.out.trans hst)
        have HP7 := Lib.hid hP7
        have HB7 := Lib.hid hB7
        have HW7 := Lib.hid hW7
        have HBn := Lib.hid hb7
        have HKW := Lib.hid hkW7
        have HRC := Lib.hid hrc
        have HQ := Lib.hid hq
        have a0 := hB7.cell (i := 0) rfl
        have hkd : (k : Int) ≤ (d : Int) := by omega
        have hkd' : ¬ d < k := by omega
        have hk0 : (0 : Int) ≤ (k : Int) := by omega
        have hkl : (k : Int) < (s.length : Int) := by omega
        clear hst hno hkr hx hTh hPs hq hrc hP7 hT7 hZ7 hU7 hV7 hF7 hsW7 hkW7 hB7 hk7 hW7 hb7 hq2 hp2 HKR
        go_wp2_with fail
        rw [HW7.out, HBn.out]
        go_wp2_with fail
        with_reducible refine (HFi.out _ _ (Keeps.refl _ _)).mono ?_
        rintro e w2 ⟨hk2, (⟨cc, A3, q3, A4, n4, q4, hfc, rfl, _⟩ | ⟨hfc, rfl⟩)⟩
        · have hX2 := HB7.out.keeps hk2 (fun h => h)
          clear a0
          have a0 := hX2.cell (i := 0) rfl
          have a1 := hX2.cell (i := 1) rfl
          have a2 := hX2.cell (i := 2) rfl
          have a3 := hX2.cell (i := 3) rfl
          have a4 := hX2.cell (i := 4) rfl
          have hXl := hX2.lt
          have HK2 := Lib.hid hk2
          have HFC : Hid ((findC l x.cls).isSome = true) := by show _ = _; rw [hfc]; rfl
          clear hX2 hk2 hfc
          go_wp2_with fail
          with_reducible refine (HCh.out _ (HK2.out.alloc _)).mono ?_
          rintro e w3 ⟨rfl, hk3⟩
          have HK3 := Lib.hid hk3
          clear hk3
          by_cases hrc : rc = 0
          · have hrcb : (rc != 0) = false := by rw [hrc]; rfl
            have hX3 := HB7.out.keeps HK3.out (fun h => h)
            clear a0 a1 a2 a3 a4 hXl
            have a0 := hX3.cell (i := 0) rfl
            have a1 := hX3.cell (i := 1) rfl
            have a2 := hX3.cell (i := 2) rfl
            have a3 := hX3.cell (i := 3) rfl
            have a4 := hX3.cell (i := 4) rfl
            have a5 := hX3.cell (i := 5) rfl
            have hXl := hX3.lt
            have HRC0 : Hid ((chk x.head 4096 false 1).1 = 0) := HRC.out.trans hrc
            have HFr2 := Lib.hid (HFr.out hrc)
            clear hX3 hrc HFr
            go_wp2_with fail
            with_reducible refine (HHd.out _ HK3.out).mono ?_
            rintro e w4 ⟨rfl, hk4⟩
            have HK4 := Lib.hid hk4
            clear hk4
            cases hhd : headed x.head
            · have HE : Hid (instC l s = 3) := by
                show _ = _
                have h3 : instErr l (s.take k) x = 3 := by rw [instErr, HFC.out, if_neg (by simp), if_neg (by rw [HRC0.out]; simp), if_pos hhd]
                rw [HE1.out, HNO.out, h3]; simp
              clear hhd
              go_wp2_with fail
              go_ret
              exact ⟨ret_int HE.out.symm, HKW.out.trans HK4.out (fun _ _ h => h)⟩
            · have HHE := Lib.hid hhd
              have hX4 := HB7.out.keeps HK4.out (fun h => h)
              clear a0 a1 a2 a3 a4 a5 hXl
              have a0 := hX4.cell (i := 0) rfl
              have a1 := hX4.cell (i := 1) rfl
              have a2 := hX4.cell (i := 2) rfl
              have a3 := hX4.cell (i := 3) rfl
              have a4 := hX4.cell (i := 4) rfl
              have a5 := hX4.cell (i := 5) rfl
              have hXl := hX4.lt
              clear hX4 hhd
              go_wp2_with fail
              clear a0 a1 a2 a3 a4 a5 hXl
              go_loopw [52] (fun i wi => ∃ j : Nat, j ≤ x.preds.length ∧ .int .i64 (j : Int) = i ∧ Keeps (fun _ => False) W7 wi ∧ Hid (predsErr l x x.preds = predsErr l x (x.preds.drop j))) (fun i _ => x.preds.length - (intOf i).toNat)
              case atStart => exact ⟨0, Nat.zero_le _, rfl, HK4.out, rfl⟩
              case round =>
                clear HK4 HK3 HK2
                obtain ⟨j, hj, rfl, hkj, hnj⟩ := hrel
                obtain ⟨wy, hwy⟩ : ∃ wy, wy = wr := ⟨_, rfl⟩
                rw [← hwy] at hkj ⊢
                clear hwy
                have HKJ := Lib.hid hkj
                by_cases hltj : j < x.preds.length
                · have hstj := predsErr_step l x x.preds j hltj
                  obtain ⟨gp, offp, vp, hadr, hgp, e0, e1, e2, e3, e4, _, hTp⟩ := Pred.get (HP7.out.keeps hkj (fun _ _ h => h)) hltj
                  obtain rfl := hadr
                  obtain ⟨Ap, cp, rfl, _⟩ := hTp.form
                  obtain ⟨p, hp⟩ : ∃ p, x.preds[j] = p := ⟨_, rfl⟩
                  rw [hp] at hstj e0 e1 e2 e3 e4
                  have HNJ := Lib.hid (hnj.out.trans hstj)
                  have hjl : (j : Int) < (x.preds.length : Int) := by omega
                  have hj0 : (0 : Int) ≤ (j : Int) := by omega
                  clear hstj hnj hkj hp hTp
                  go_wp2_with fail
                  obtain ⟨b12, hb12⟩ : ∃ b12, wy.heap.size = b12 := ⟨_, rfl⟩
                  obtain ⟨W12, hW12⟩ : ∃ W12, wy.alloc (.cells #[.string p.cls, .int .i64 p.ty.kind, .string p.ty.name, .int .i64 p.ty.var, .slice Ap p.ty.args.length cp] 35) = W12 := ⟨_, rfl⟩
                  have hk12 : Keeps (fun _ => False) W7 W12 := by rw [← hW12]; exact HKJ.out.alloc _
                  have hB12 : Blk W12 b12 35 [.string p.cls, .int .i64 p.ty.kind, .string p.ty.name, .int .i64 p.ty.var, .slice Ap p.ty.args.length cp] := by rw [← hW12, ← hb12]; exact Blk.new wy _ [_, _, _, _, _]
                  rw [hW12, hb12]
                  with_reducible refine (HFi.out _ _ hk12).mono ?_
                  have hs12 := hk12.size
                  have HK12 := Lib.hid hk12
                  have HB12 := Lib.hid hB12
                  clear hk12 hB12 hW12 hb12
                  rintro e w5 ⟨hk5, (⟨cc2, A5, q5, A6, n6, q6, hfp, rfl, _⟩ | ⟨hfp, rfl⟩)⟩
                  · have HFP : Hid ((findC l p.cls).isSome = true) := by show _ = _; rw [hfp]; rfl
                    have hk75 := HK12.out.trans hk5 (fun _ _ h => h)
                    have HK5 := Lib.hid hk5
                    have HK75 := Lib.hid hk75
                    clear hfp hk5 hk75
                    go_wp2_with fail
                    obtain ⟨W6, hW6⟩ : ∃ W6, w5.alloc (.cells #[.string cc2.name, .slice A5 cc2.super.length q5, .slice A6 n6 q6] 42) = W6 := ⟨_, rfl⟩
                    have hk6 : Keeps (fun _ => False) W7 W6 := by rw [← hW6]; exact HK75.out.alloc _
                    have hk126 : Keeps (fun _ => False) W12 W6 := by rw [← hW6]; exact HK5.out.alloc _
                    rw [hW6]
                    have HK6 := Lib.hid hk6
                    have HQS : Hid (∀ X, Keeps (fun _ => False) W6 X → (X.cell? ⟨b12, 1, none⟩ = some (.int .i64 p.ty.kind) ∧ X.cell? ⟨b12, 3, none⟩ = some (.int .i64 p.ty.var) ∧ X.cell? ⟨b7, 1, none⟩ = some (.int .i64 x.head.kind) ∧ X.cell? ⟨b7, 2, none⟩ = some (.string x.head.name) ∧ X.cell? ⟨b7, 3, none⟩ = some (.int .i64 x.head.var) ∧ X.cell? ⟨b7, 4, none⟩ = some (.slice A1 x.head.args.length q1))) := fun X hk => by
                      have hx := HB7.out.keeps (hk6.trans hk (fun _ _ h => h)) (fun h => h)
                      have hy := HB12.out.keeps (hk126.trans hk (fun _ _ h => h)) (fun h => h)
                      exact ⟨hy.cell (i := 1) rfl, hy.cell (i := 3) rfl, hx.cell (i := 1) rfl, hx.cell (i := 2) rfl, hx.cell (i := 3) rfl, hx.cell (i := 4) rfl⟩
                    have HFr6 : Hid (∀ X, Keeps (fun _ => False) W6 X → Calls Tryd.prog 29 #[.agg #[.int .i64 x.head.kind, .string x.head.name, .int .i64 x.head.var, .slice A1 x.head.args.length q1]] X (fun e w' => ∃ A c, e = .returned (.slice A (freeP x.head).length c) ∧ Sl w' (fun _ => True) dInt (freeP x.head) (.slice A (freeP x.head).length c) ∧ Keeps (fun _ => False) W6 w')) := fun X hk =>
                      (HFr2.out X (hk6.trans hk (fun _ _ h => h))).mono fun e w' ⟨A, c, he, hS, hkk⟩ => ⟨A, c, he, hS, hk.trans hkk (fun _ _ h => h)⟩
                    obtain ⟨qi, hqi⟩ : ∃ qi, intIn (freeP x.head) p.ty.var = qi := ⟨_, rfl⟩
                    have HCo : Hid (∀ Y A c, Sl Y (fun _ => True) dInt (freeP x.head) (.slice A (freeP x.head).length c) → Keeps (fun _ => False) W6 Y → ∀ X, Keeps (fun _ => False) Y X → Calls Tryd.prog 28 #[.slice A (freeP x.head).length c, .int .i64 p.ty.var] X (fun e w' => e = .returned (.bool qi) ∧ Keeps (fun _ => False) W6 w')) := fun Y A c hS hy X hk => by
                      rw [← hqi]
                      refine (intContains (freeP x.head) p.ty.var _ _ X (hS.keeps hk (fun _ _ h => h))).mono ?_
                      rintro e w' ⟨he, rfl⟩
                      exact ⟨he, hy.trans hk (fun _ _ h => h)⟩
                    have HQI := Lib.hid hqi
                    clear hW6 hk6 hk126 hqi
                    by_cases hp0 : p.ty.kind = 0
                    · have hp0b : (p.ty.kind != 0) = false := by rw [hp0]; rfl
                      have HP0 := Lib.hid hp0
                      clear hp0
                      cases qi
                      · have HE : Hid (instC l s = 3) := by
                          show _ = _
                          have h6 : predsErr l x x.preds = 3 := HNJ.out.trans (by rw [HFP.out, if_neg (by simp), if_pos (.inr HQI.out)])
                          have h7 : instErr l (s.take k) x = 3 := by rw [instErr, HFC.out, if_neg (by simp), if_neg (by rw [HRC0.out]; simp), if_neg (by rw [HHE.out]; simp), if_pos (by rw [h6]; decide), h6]
                          rw [HE1.out, HNO.out, h7]; simp
                        go_region_held3 (fun X => X.cell? ⟨b12, 1, none⟩ = some (.int .i64 p.ty.kind) ∧ X.cell? ⟨b12, 3, none⟩ = some (.int .i64 p.ty.var) ∧ X.cell? ⟨b7, 1, none⟩ = some (.int .i64 x.head.kind) ∧ X.cell? ⟨b7, 2, none⟩ = some (.string x.head.name) ∧ X.cell? ⟨b7, 3, none⟩ = some (.int .i64 x.head.var) ∧ X.cell? ⟨b7, 4, none⟩ = some (.slice A1 x.head.args.length q1))
                          (exact HQS.out _ (by repeat (first | (with_reducible assumption) | (with_reducible exact Keeps.refl _ _) | (with_reducible refine Keeps.drewN ?_ _) | (with_reducible refine Keeps.drew ?_) | with_reducible refine Keeps.setCell ?_ (by first | (intro _; exact rfl) | (intro _; exact Or.inl rfl) | (intro _; exact Or.inr rfl) | (simp; done) | (simp; omega)) _ | (with_reducible refine Keeps.alloc ?_ _))))
                          (first
                            | (go_at_call 29; with_reducible refine (HFr6.out _ (by repeat (first | (with_reducible assumption) | (with_reducible exact Keeps.refl _ _) | (with_reducible refine Keeps.drewN ?_ _) | (with_reducible refine Keeps.drew ?_) | with_reducible refine Keeps.setCell ?_ (by first | (intro _; exact rfl) | (intro _; exact Or.inl rfl) | (intro _; exact Or.inr rfl) | (simp; done) | (simp; omega)) _ | (with_reducible refine Keeps.alloc ?_ _)))).mono ?_; rintro e wa ⟨Af, cf, rfl, hSf, hka⟩)
                            | (go_at_call 28; with_reducible refine (HCo.out _ _ _ hSf hka _ (by repeat (first | (with_reducible assumption) | (with_reducible exact Keeps.refl _ _) | (with_reducible refine Keeps.drewN ?_ _) | (with_reducible refine Keeps.drew ?_) | with_reducible refine Keeps.setCell ?_ (by first | (intro _; exact rfl) | (intro _; exact Or.inl rfl) | (intro _; exact Or.inr rfl) | (simp; done) | (simp; omega)) _ | (with_reducible refine Keeps.alloc ?_ _)))).mono ?_; rintro e wb ⟨rfl, hkb⟩))
                        all_goals go_wp2_with fail
                        all_goals go_ret
                        all_goals exact ⟨ret_int HE.out.symm, (HKW.out.trans HK6.out (fun _ _ h => h)).trans (show Keeps (fun _ => False) W6 _ from (by repeat (first | (with_reducible assumption) | (with_reducible exact Keeps.refl _ _) | (with_reducible refine Keeps.drewN ?_ _) | (with_reducible refine Keeps.drew ?_) | with_reducible refine Keeps.setCell ?_ (by first | (intro _; exact rfl) | (intro _; exact Or.inl rfl) | (intro _; exact Or.inr rfl) | (simp; done) | (simp; omega)) _ | (with_reducible refine Keeps.alloc ?_ _)))) (fun _ _ h => h)⟩
                      · have HE : Hid (predsErr l x x.preds = predsErr l x (x.preds.drop (j + 1))) := HNJ.out.trans (by rw [HFP.out, if_neg (by simp), if_neg (by simp [HP0.out, HQI.out])])
                        go_region_held3 (fun X => X.cell? ⟨b12, 1, none⟩ = some (.int .i64 p.ty.kind) ∧ X.cell? ⟨b12, 3, none⟩ = some (.int .i64 p.ty.var) ∧ X.cell? ⟨b7, 1, none⟩ = some (.int .i64 x.head.kind) ∧ X.cell? ⟨b7, 2, none⟩ = some (.string x.head.name) ∧ X.cell? ⟨b7, 3, none⟩ = some (.int .i64 x.head.var) ∧ X.cell? ⟨b7, 4, none⟩ = some (.slice A1 x.head.args.length q1))
                          (exact HQS.out _ (by repeat (first | (with_reducible assumption) | (with_reducible exact Keeps.refl _ _) | (with_reducible refine Keeps.drewN ?_ _) | (with_reducible refine Keeps.drew ?_) | with_reducible refine Keeps.setCell ?_ (by first | (intro _; exact rfl) | (intro _; exact Or.inl rfl) | (intro _; exact Or.inr rfl) | (simp; done) | (simp; omega)) _ | (with_reducible refine Keeps.alloc ?_ _))))
                          (first
                            | (go_at_call 29; with_reducible refine (HFr6.out _ (by repeat (first | (with_reducible assumption) | (with_reducible exact Keeps.refl _ _) | (with_reducible refine Keeps.drewN ?_ _) | (with_reducible refine Keeps.drew ?_) | with_reducible refine Keeps.setCell ?_ (by first | (intro _; exact rfl) | (intro _; exact Or.inl rfl) | (intro _; exact Or.inr rfl) | (simp; done) | (simp; omega)) _ | (with_reducible refine Keeps.alloc ?_ _)))).mono ?_; rintro e wa ⟨Af, cf, rfl, hSf, hka⟩)
                            | (go_at_call 28; with_reducible refine (HCo.out _ _ _ hSf hka _ (by repeat (first | (with_reducible assumption) | (with_reducible exact Keeps.refl _ _) | (with_reducible refine Keeps.drewN ?_ _) | (with_reducible refine Keeps.drew ?_) | with_reducible refine Keeps.setCell ?_ (by first | (intro _; exact rfl) | (intro _; exact Or.inl rfl) | (intro _; exact Or.inr rfl) | (simp; done) | (simp; omega)) _ | (with_reducible refine Keeps.alloc ?_ _)))).mono ?_; rintro e wb ⟨rfl, hkb⟩))
                        all_goals go_wp2_with fail
                        all_goals go_roundw
                        case rel => exact ⟨j + 1, by omega, by go_num, HK6.out.trans (show Keeps (fun _ => False) W6 _ from (by repeat (first | (with_reducible assumption) | (with_reducible exact Keeps.refl _ _) | (with_reducible refine Keeps.drewN ?_ _) | (with_reducible refine Keeps.drew ?_) | with_reducible refine Keeps.setCell ?_ (by first | (intro _; exact rfl) | (intro _; exact Or.inl rfl) | (intro _; exact Or.inr rfl) | (simp; done) | (simp; omega)) _ | (with_reducible refine Keeps.alloc ?_ _)))) (fun _ _ h => h), HE.out⟩
                        case measure => simp [intOf]; omega
                    · have hp0b : (p.ty.kind != 0) = true := by rw [bne_iff_ne]; exact hp0
                      have HE : Hid (instC l s = 3) := by
                        show _ = _
                        have h6 : predsErr l x x.preds = 3 := HNJ.out.trans (by rw [HFP.out, if_neg (by simp), if_pos (.inl hp0)])
                        have h7 : instErr l (s.take k) x = 3 := by rw [instErr, HFC.out, if_neg (by simp), if_neg (by rw [HRC0.out]; simp), if_neg (by rw [HHE.out]; simp), if_pos (by rw [h6]; decide), h6]
                        rw [HE1.out, HNO.out, h7]; simp
                      clear hp0
                      obtain ⟨y1, y3, z1, z2, z3, z4⟩ := HQS.out W6 (Keeps.refl _ _)
                      go_quiet (fail)
                      all_goals go_wp2_with fail
                      all_goals go_ret
                      all_goals exact ⟨ret_int HE.out.symm, (HKW.out.trans HK6.out (fun _ _ h => h)).trans (show Keeps (fun _ => False) W6 _ from (by repeat (first | (with_reducible assumption) | (with_reducible exact Keeps.refl _ _) | (with_reducible refine Keeps.drewN ?_ _) | (with_reducible refine Keeps.drew ?_) | with_reducible refine Keeps.setCell ?_ (by first | (intro _; exact rfl) | (intro _; exact Or.inl rfl) | (intro _; exact Or.inr rfl) | (simp; done) | (simp; omega)) _ | (with_reducible refine Keeps.alloc ?_ _)))) (fun _ _ h => h)⟩
                  · have HE : Hid (instC l s = 6) := by
                      show _ = _
                      have h6 : predsErr l x x.preds = 6 := HNJ.out.trans (by rw [hfp]; simp)
                      have h7 : instErr l (s.take k) x = 6 := by rw [instErr, HFC.out, if_neg (by simp), if_neg (by rw [HRC0.out]; simp), if_neg (by rw [HHE.out]; simp), if_pos (by rw [h6]; decide), h6]
                      rw [HE1.out, HNO.out, h7]; simp
                    have HK5 := Lib.hid (HK12.out.trans hk5 (fun _ _ h => h))
                    clear hfp hk5
                    go_wp2_with fail
                    go_ret
                    exact ⟨ret_int HE.out.symm, HKW.out.trans (HK5.out.alloc _) (fun _ _ h => h)⟩
                · have hd : x.preds.drop j = [] := List.drop_eq_nil_of_le (by omega)
                  have HPE : Hid (predsErr l x x.preds = 0) := by show _ = _; rw [hnj.out, hd, predsErr]
                  have hjl : ¬ (j : Int) < (x.preds.length : Int) := by omega
                  clear hd hnj hkj
                  cases q
                  · have HE : Hid (instsErr l [] s = instsErr l (s.take (k + 1)) (s.drop (k + 1))) := by
                      show _ = _
                      have h0 : instErr l (s.take k) x = 0 := by rw [instErr, HFC.out, if_neg (by simp), if_neg (by rw [HRC0.out]; simp), if_neg (by rw [HHE.out]; simp), if_neg (by rw [HPE.out]; simp), if_neg (by rw [HQ.out]; simp)]
                      rw [HNO.out, h0]; simp
                    go_wp2_with ((go_at_call 30; with_reducible refine (HCF.out _ HKJ.out).mono ?_); rintro e w15 ⟨rfl, hk15⟩)
                    go_roundw
                    case rel => exact ⟨k + 1, by omega, by go_num, HKW.out.trans hk15 (fun _ _ h => h), HE.out⟩
                    case measure => simp [intOf]; omega
                  · have HE : Hid (instC l s = 7) := by
                      show _ = _
                      have h0 : instErr l (s.take k) x = 7 := by rw [instErr, HFC.out, if_neg (by simp), if_neg (by rw [HRC0.out]; simp), if_neg (by rw [HHE.out]; simp), if_neg (by rw [HPE.out]; simp), if_pos HQ.out]
                      rw [HE1.out, HNO.out, h0]; simp
                    go_wp2_with ((go_at_call 30; with_reducible refine (HCF.out _ HKJ.out).mono ?_); rintro e w15 ⟨rfl, hk15⟩)
                    go_ret
                    exact ⟨ret_int HE.out.symm, HKW.out.trans hk15 (fun _ _ h => h)⟩
          · have hrcb : (rc != 0) = true := by rw [bne_iff_ne]; exact hrc
            have HE : Hid (instC l s = rc) := by
              show _ = _
              have h3 : instErr l (s.take k) x = rc := by rw [instErr, HFC.out, if_neg (by simp), if_pos (by rw [HRC.out]; exact hrc), HRC.out]
              rw [HE1.out, HNO.out, h3, if_pos hrc]
            clear hrc
            go_wp2_with fail
            go_ret
            exact ⟨ret_int HE.out.symm, HKW.out.trans HK3.out (fun _ _ h => h)⟩
        · have HE : Hid (instC l s = 6) := by
            show _ = _
            have h6 : instErr l (s.take k) x = 6 := by rw [instErr, hfc]; simp
            rw [HE1.out, HNO.out, h6]; simp
          have HK2 := Lib.hid hk2
          clear hfc hk2
          go_wp2_with fail
          go_ret
          exact ⟨ret_int HE.out.symm, HKW.out.trans (HK2.out.alloc _) (fun _ _ h => h)⟩
      · have hd : s.drop k = [] := List.drop_eq_nil_of_le (by omega)
        have HE : Hid (instC l s = 0) := by show _ = _; rw [HE1.out, hno.out, hd, instsErr]
        have hkl : ¬ (k : Int) < (s.length : Int) := by omega
        clear hd hno hkr
        go_wp2_with fail
        go_ret
        exact ⟨ret_int HE.out.symm, HKR.out⟩
  · have hck2 : (checkC l != 0) = true := by rw [bne_iff_ne]; exact hck
    obtain ⟨rk, hrk⟩ : ∃ rk, checkC l = rk := ⟨_, rfl⟩
    have HE : Hid (instC l s = rk) := by show _ = _; rw [instC, if_pos hck, hrk]
    rw [hrk] at HCk hck2
    clear hck hrk
    go_enter Tryd.func19, Tryd.ntmps19
    go_wp2_with fail
    with_reducible refine HCk.out.mono ?_
    rintro e w1 ⟨rfl, hk1⟩
    go_wp2_with fail
    go_ret
    exact ⟨ret_int HE.out.symm, hk1⟩
end Go.Proofs.YtdljlpogljjldaaDoor
