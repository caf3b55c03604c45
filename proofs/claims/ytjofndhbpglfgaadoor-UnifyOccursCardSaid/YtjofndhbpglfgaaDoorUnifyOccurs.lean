/- UnifyOccurs: whatever the input, the law answers true. The card ties the variable unify.sizes to the program's text. -/
import Derived.Test.YtjofndhbpglfgaaDoorUOccL
import Derived.Test.YtjofndhbpglfgaaDoorWithin
import Derived.Test.YtjofndhbpglfgaaDoorHanded
import Derived.Lib.LaidTab
import Derived.LaidSub
namespace Go.Proofs.YtjofndhbpglfgaaDoor.unifyOccurs
open Go.RowKit Go.Shelf Go.ChangeShapes Go.WideShapes Go.Proofs.YtjofndhbpglfgaaDoor

set_option maxHeartbeats 400000 in
theorem check_any (t : Ty) (W : World) (F : Nat → Prop) (av : Value) (hT : TyC W F t av) (hF : ∀ b, F b → b < W.heap.size) (hz : Szs W) :
    Calls Tryd.prog 23 #[tyV t av] W fun e w' => e = .returned (.int .i64 (chk t 4096 false 1).1) ∧ Below W.heap.size W w' := by
  obtain ⟨A, c, rfl, _⟩ := hT.form
  obtain ⟨tb, htb⟩ : ∃ tb, W.heap.size = tb := ⟨_, rfl⟩
  obtain ⟨W2, hW2⟩ : ∃ W2, (W.alloc (.cells #[.int .i64 t.kind, .string t.name, .int .i64 t.var, .slice A t.args.length c] 45)).alloc (.cells #[.int .i64 4096] 92) = W2 := ⟨_, rfl⟩
  have hk2 : Keeps (fun _ => False) W W2 := by rw [← hW2]; exact ((Keeps.refl _ _).alloc _).alloc _
  have hc2 : Blk W2 (tb + 1) 92 [.int .i64 4096] := by
    have := Blk.new (W.alloc (.cells #[.int .i64 t.kind, .string t.name, .int .i64 t.var, .slice A t.args.length c] 45)) 92 [.int .i64 4096]
    rw [hW2] at this
    simpa [htb] using this
  have hzl := block_lt_of_cell hz.c0
  have HCk := Lib.hid (chk_all t W2 tb (tb + 1) _ 4096 1 false ((hT.keeps hk2 (fun _ _ h => h)).mono (fun b hb => by have := hF b hb; omega)) hc2 (by dsimp at hzl; omega) (by omega) (hz.keeps hk2 (fun h => h)) (by omega) (by omega) (by omega) (by omega))
  have HW2 := Lib.hid hW2
  have HK2 := Lib.hid hk2
  have HTb := Lib.hid htb
  unfold tyV
  clear hT hF hz hW2 hk2 hc2 htb hzl
  go_enter Tryd.func23, Tryd.ntmps23
  go_wp2_with fail
  rw [HW2.out, HTb.out]
  with_reducible refine HCk.out.mono ?_
  rintro e w3 ⟨rfl, _, hk3⟩
  have hb3 : Below W.heap.size W w3 := (HK2.out.trans hk3 (fun i hi h => by have := HTb.out; omega)).below (fun _ h => h.elim) (Nat.le_refl _)
  have HB3 := Lib.hid hb3
  clear hk3 hb3
  go_wp2_with fail
  go_ret
  exact ⟨rfl, HB3.out⟩
theorem clo_any (v : Int) (W : World) : Calls Tryd.prog 26 (#[.int .i64 v] ++ #[]) W fun e w' => e = .returned (.bool (decide (11 < v))) ∧ w' = W := by
  change Calls Tryd.prog 26 #[.int .i64 v] W _
  go_enter Tryd.func26, Tryd.ntmps26
  go_wp2_with fail
  go_ret
  exact ⟨rfl, rfl⟩

theorem sl_one {W : World} {F : Nat → Prop} {t : Ty} {av : Value} {g cap : Nat} (hb : Blk W g 45 (t.cells av)) (hg : F g) (ht : TyC W F t av) (hc : 1 ≤ cap) (hc' : cap ≤ maxLen) : Sl W F tyD [t] (.slice (some ⟨g, 0, none⟩) 1 cap) := by
  unfold Sl
  simp only [Rp]
  exact ⟨_, cap, rfl, by simpa using hc, hc', (fun h => nomatch h), fun _ => ⟨g, 0, _, rfl, hg, RpAll.one (tyD.rp.2 ⟨av, rfl, ht⟩), fun j u hj => by rw [Nat.zero_add]; exact hb.cell hj⟩⟩
theorem nameL_size : nameL.size ≤ maxLen := by unfold maxLen; decide

set_option maxRecDepth 100000 in
set_option maxHeartbeats 8000000 in
theorem walk (v : Int) (a : Ty) (av : Value) (W : World) (hT : TyC W (· < W.heap.size) a av) (hz : Szs W) :
    Calls Tryd.prog 5 #[.int .i64 v, tyV a av] W fun e w' => e = .returned (.bool true) ∧ Below W.heap.size W w' := by
  obtain ⟨A, c, rfl, _⟩ := hT.form
  obtain ⟨b0, hb0⟩ : ∃ b0, W.heap.size = b0 := ⟨_, rfl⟩
  obtain ⟨W0, hW0⟩ : ∃ W0, W.alloc (.cells #[.int .i64 a.kind, .string a.name, .int .i64 a.var, .slice A a.args.length c] 45) = W0 := ⟨_, rfl⟩
  have hk0 : Keeps (fun _ => False) W W0 := by rw [← hW0]; exact (Keeps.refl _ _).alloc _
  have hA3 : Blk W0 b0 45 [.int .i64 a.kind, .string a.name, .int .i64 a.var, .slice A a.args.length c] := by
    rw [← hW0, ← hb0]; exact Blk.new W _ [_, _, _, _]
  have hTa0 := hT.keeps hk0 (fun _ _ h => h)
  have HP := Lib.hid (fun X => pair_any X a a A A c c)
  have HWi := Lib.hid (fun X => within_any v 0 11 X (by omega) (by omega) (by omega) (by omega))
  obtain ⟨n, hn⟩ : ∃ n : Nat, withinI v 0 11 = (n : Int) := ⟨(withinI v 0 11).toNat, by have := withinI_lo v 0 11 (by omega); omega⟩
  have hn12 : n < 12 := by have := withinI_hi v 0 11 (by omega); omega
  rw [hn] at HWi
  have t0 := hA3.cell (i := 0) rfl
  have t1 := hA3.cell (i := 1) rfl
  have t2 := hA3.cell (i := 2) rfl
  have t3 := hA3.cell (i := 3) rfl
  have hbl := hA3.lt
  have HA3 := Lib.hid hA3
  have HTa := Lib.hid hTa0
  have HZ := Lib.hid (hz.keeps hk0 (fun h => h))
  have HK0 := Lib.hid hk0
  have HW0 := Lib.hid hW0
  have HB0 := Lib.hid hb0
  have HN := Lib.hid hn
  unfold tyV at HP
  unfold tyV
  clear hT hz hk0 hW0 hb0 hn hTa0 hA3
  go_enter Tryd.func5, Tryd.ntmps5
  go_wp2_with fail
  rw [HW0.out, HB0.out]
  with_reducible refine (HP.out _).mono ?_
  rintro e w1 ⟨sv, rfl, hs1, hb1⟩
  obtain ⟨As, cs, rfl, hcs, hcs2, _⟩ := hs1.form
  have HS1 := Lib.hid hs1
  have HB1 := Lib.hid hb1
  rw [idS_len] at hcs ⊢
  clear hs1 hb1
  go_wp2_with fail
  have hF1 : ∀ b, b < (w1.alloc (.cells #[.int .i64 0, .string ⟨#[]⟩, .int .i64 0, .slice none 0 0] 45)).heap.size → b < w1.heap.size + 1 := fun b hb => by simpa using hb
  have hk1 : Below w1.heap.size w1 (w1.alloc (.cells #[.int .i64 0, .string ⟨#[]⟩, .int .i64 0, .slice none 0 0] 45)) := (Below.refl _ _).alloc (Nat.le_refl _) _
  have hsl := sl_one (F := fun b => b < w1.heap.size + 1) (t := varT 0) (cap := 1) (Blk.new w1 45 [.int .i64 0, .string ⟨#[]⟩, .int .i64 0, .slice none 0 0]) (Nat.lt_succ_self _) (varT_ok (wfI_nat (j := 0) (by omega))) (Nat.le_refl _) (by unfold maxLen; omega)
  have hCo1 := con_any nameL nameL_size _ _ _ _ hsl
  unfold tyV nameL at hCo1
  have HCo1 := Lib.hid hCo1
  clear hCo1 hsl hF1
  have HL1 := Lib.hid hk1
  clear hk1
  with_reducible refine HCo1.out.mono ?_
  rintro e w2 ⟨rfl, hT2, hb2⟩
  have hb12 : Below w1.heap.size w1 w2 := HL1.out.trans (hb2.mono HL1.out.size)
  have hs2 : w1.heap.size + 1 ≤ w2.heap.size := by have := hb2.size; simpa using this
  have hS2 : Sl w2 (fun b => b < w1.heap.size + 1) tyD (idS 12) _ := (HS1.out.later hb12).mono (fun b hb => by omega)
  have hz1 := HB1.out.size
  have hZ2 := (HZ.out.keeps (Keeps.of_below (X := fun _ => False) HB1.out) (fun h => h)).keeps (Keeps.of_below (X := fun _ => False) hb12) (fun h => h)
  have hU1 := unify_any 2 1 _ w2 _ (idS 12) hS2 (fun b hb => Nat.lt_of_lt_of_le hb hs2) hZ2 (by rw [idS_len]; omega) (varT 0) (conT ⟨#[76]⟩ [varT 0]) (.slice none 0 0) _ (varT_ok (wfI_nat (j := 0) (by omega))) hT2 8 (idS 12) (unify_occ 12 0 0 0 [] (by omega) (by omega) tyErr_occ0)
  unfold tyV at hU1
  rw [idS_len] at hU1
  have HU1 := Lib.hid hU1
  have HB12 := Lib.hid hb12
  have HS2 := Lib.hid hs2
  clear hU1 hT2 hb2 hb12 hS2 hZ2 hs2
  go_wp2_with fail
  refine HU1.out.mono ?_
  rintro e w3 ⟨hb3, (⟨_, rfl⟩ | ⟨h, _⟩)⟩
  rotate_left
  · exact absurd h (by decide)
  have hb03 : Below W0.heap.size W0 w3 := HB1.out.trans (((HB12.out.trans (hb3.mono (by have := HS2.out; omega))).mono HB1.out.size))
  have hb13 : Below w1.heap.size w1 w3 := HB12.out.trans (hb3.mono (by have := HS2.out; omega))
  have HB03 := Lib.hid hb03
  have HB13 := Lib.hid hb13
  have t0' := (hb03.cell (block_lt_of_cell t0)).trans t0
  have t1' := (hb03.cell (block_lt_of_cell t1)).trans t1
  have t2' := (hb03.cell (block_lt_of_cell t2)).trans t2
  have t3' := (hb03.cell (block_lt_of_cell t3)).trans t3
  have hs3 := hb03.size
  have hb3l : b0 < w3.heap.size := by omega
  clear hb3 hb03 hb13 HU1 HCo1 HL1 HP t0 t1 t2 t3 HS2
  go_wp2_with fail
  with_reducible refine (HWi.out _).mono ?_
  rintro e w' ⟨rfl, rfl⟩
  go_wp2_with fail
  have hl2 : Below w3.heap.size w3 (w3.alloc (.cells #[.int .i64 0, .string ⟨#[]⟩, .int .i64 (n : Int), .slice none 0 0, .int .i64 a.kind, .string a.name, .int .i64 a.var, .slice A a.args.length c] 45)) := (Below.refl _ _).alloc (Nat.le_refl _) _
  have hks := HK0.out.size
  have hTa3 : TyC (w3.alloc (.cells #[.int .i64 0, .string ⟨#[]⟩, .int .i64 (n : Int), .slice none 0 0, .int .i64 a.kind, .string a.name, .int .i64 a.var, .slice A a.args.length c] 45)) (fun b => b < w3.heap.size + 1) a _ := ((HTa.out.later HB03.out).later hl2).mono (fun b hb => by omega)
  have hsl := sl_two (F := fun b => b < w3.heap.size + 1) (t := varT (n : Int)) (u := a) (av := .slice none 0 0) (bv := .slice A a.args.length c) (cap := 2) (Blk.new w3 45 [.int .i64 0, .string ⟨#[]⟩, .int .i64 (n : Int), .slice none 0 0, .int .i64 a.kind, .string a.name, .int .i64 a.var, .slice A a.args.length c]) (Nat.lt_succ_self _) (varT_ok (wfI_nat (by omega))) hTa3 (Nat.le_refl _) (by unfold maxLen; omega)
  have hCo2 := con_any nameL nameL_size _ _ _ _ hsl
  unfold tyV nameL at hCo2
  have HCo2 := Lib.hid hCo2
  have HL2 := Lib.hid hl2
  clear hCo2 hsl hTa3 hl2
  with_reducible refine HCo2.out.mono ?_
  rintro e w4 ⟨rfl, hT4, hb4⟩
  have hT4' : TyC w4 (fun b => b < w3.heap.size + 1) (occT n [a]) (.slice (some ⟨w3.heap.size, 0, none⟩) 2 2) := hT4
  obtain ⟨x, hx⟩ : ∃ x, occT n [a] = x := ⟨_, rfl⟩
  have hx2 : conT ⟨#[76]⟩ [varT (n : Int), a] = x := hx
  rw [hx] at hT4'
  rw [hx2]
  have hxl : x.args.length = 2 := by rw [← hx]; rfl
  have hb34 : Below w3.heap.size w3 w4 := HL2.out.trans (hb4.mono HL2.out.size)
  have hs34 : w3.heap.size + 1 ≤ w4.heap.size := by have := hb4.size; simpa using this
  obtain ⟨b4, hb4e⟩ : ∃ b4, w4.heap.size = b4 := ⟨_, rfl⟩
  obtain ⟨W5, hW5⟩ : ∃ W5, w4.alloc (.cells #[.int .i64 x.kind, .string x.name, .int .i64 x.var, .slice (some ⟨w3.heap.size, 0, none⟩) 2 2] 45) = W5 := ⟨_, rfl⟩
  have hk5 : Keeps (fun _ => False) w4 W5 := by rw [← hW5]; exact (Keeps.refl _ _).alloc _
  have hX5 : Blk W5 b4 45 [.int .i64 x.kind, .string x.name, .int .i64 x.var, .slice (some ⟨w3.heap.size, 0, none⟩) 2 2] := by rw [← hW5, ← hb4e]; exact Blk.new w4 _ [_, _, _, _]
  have hT5 := hT4'.keeps hk5 (fun _ _ h => h)
  have hs45 := hk5.size
  have hb05 : Below W0.heap.size W0 W5 := (HB03.out.trans (hb34.mono HB03.out.size)).trans (hk5.below (fun _ h => h.elim) (by have := hb34.size; omega))
  have hz5 := HZ.out.keeps (Keeps.of_below (X := fun _ => False) hb05) (fun h => h)
  have hs13 := HB13.out.size
  have hb15 : Below w1.heap.size w1 W5 := (HB13.out.trans (hb34.mono HB13.out.size)).trans (hk5.below (fun _ h => h.elim) (by omega))
  have hS5 : Sl W5 (fun b => b < w3.heap.size + 1) tyD (idS 12) _ := (HS1.out.later hb15).mono (fun b hb => by omega)
  have hCk := check_any x W5 _ _ hT5 (fun b hb => by omega) hz5
  unfold tyV at hCk
  have HCk := Lib.hid hCk
  have HT5 := Lib.hid hT5
  have HX5 := Lib.hid hX5
  have HZ5 := Lib.hid hz5
  have HS5 := Lib.hid hS5
  have HB05 := Lib.hid hb05
  have HW5 := Lib.hid hW5
  have HB4 := Lib.hid hb4e
  have HX := Lib.hid hx
  have HXl := Lib.hid hxl
  have x0 := hX5.cell (i := 0) rfl
  have x1 := hX5.cell (i := 1) rfl
  have x2 := hX5.cell (i := 2) rfl
  have x3 := hX5.cell (i := 3) rfl
  have hx5l := hX5.lt
  clear hCk hT4 hT4' hT5 hX5 hz5 hS5 hb05 hb15 hk5 hW5 hb4e hx hxl hx2 hb4 hb34 HCo2 HL2 t0' t1' t2' t3' HWi
  obtain ⟨rc, hrc⟩ : ∃ rc, (chk x 4096 false 1).1 = rc := ⟨_, rfl⟩
  rw [hrc] at HCk
  have HRc := Lib.hid hrc
  clear hrc
  by_cases h1 : rc = 0
  · have hrc0 : (chk x 4096 false 1).1 = 0 := HRc.out.trans h1
    have hfine := chk_fine x _ _ _ hrc0
    have hbnd := (chk_bound x 4096 false 1).2 hrc0
    have hnod : nodes x ≤ 1048576 := by omega
    have h1b : (rc != 0) = false := by rw [h1]; rfl
    have HRc0 := Lib.hid hrc0
    have HNod := Lib.hid hnod
    clear h1 hfine hbnd hrc0 hnod
    go_wp2_with fail
    rw [HW5.out, HB4.out]
    with_reducible refine HCk.out.mono ?_
    rintro e w6 ⟨rfl, hb6⟩
    have d0 := (hb6.cell (block_lt_of_cell x0)).trans x0
    have d1 := (hb6.cell (block_lt_of_cell x1)).trans x1
    have d2 := (hb6.cell (block_lt_of_cell x2)).trans x2
    have d3 := (hb6.cell (block_lt_of_cell x3)).trans x3
    have hs6 := hb6.size
    have hT6 := HT5.out.later hb6
    have hFr := free_any x w6 _ _ hT6 HNod.out
    have HFr := Lib.hid hFr
    have HB6 := Lib.hid hb6
    have HT6 := Lib.hid hT6
    clear hFr hb6 hT6 x0 x1 x2 x3
    go_wp2_with fail
    with_reducible refine HFr.out.mono ?_
    rintro e w7 ⟨u, rfl, hb7, hsu⟩
    obtain ⟨R, hR⟩ : ∃ R, (freeP x).any (fun v => decide ((11 : Int) < v)) = R := ⟨_, rfl⟩
    have HCf := Lib.hid (intContainsFuncS (freeP x) u (fun b => w6.heap.size ≤ b) w7 26 #[] (enters_of Tryd.func26 (by kernel_rfl) rfl)
      (fun k W' => W' = w7 ∧ R = ((freeP x).drop k).any (fun v => decide ((11 : Int) < v))) (fun W' => W' = w7 ∧ R = true) ⟨rfl, by rw [List.drop_zero]; exact hR.symm⟩
      (fun k W' hI => by rw [hI.1]; exact hsu)
      (fun k hk W' hI => by
        obtain ⟨rfl, hI2⟩ := hI
        rw [List.drop_eq_getElem_cons hk, List.any_cons] at hI2
        refine (clo_any _ W').mono ?_
        rintro e w5 ⟨rfl, rfl⟩
        cases hd : decide ((11 : Int) < (freeP x)[k])
        · rw [hd, Bool.false_or] at hI2
          exact .inl ⟨rfl, rfl, hI2⟩
        · rw [hd, Bool.true_or] at hI2
          exact .inr ⟨rfl, rfl, hI2⟩))
    have hb57 : Below W5.heap.size W5 w7 := HB6.out.trans (hb7.mono HB6.out.size)
    have hb07 : Below W.heap.size W w7 := (HK0.out.below (fun _ h => h.elim) (Nat.le_refl _)).trans ((HB05.out.trans (hb57.mono HB05.out.size)).mono HK0.out.size)
    have g0 := (hb7.cell (block_lt_of_cell d0)).trans d0
    have g1 := (hb7.cell (block_lt_of_cell d1)).trans d1
    have g2 := (hb7.cell (block_lt_of_cell d2)).trans d2
    have g3 := (hb7.cell (block_lt_of_cell d3)).trans d3
    have hs7 := hb7.size
    have HB57 := Lib.hid hb57
    have HB07 := Lib.hid hb07
    have HRR := Lib.hid hR
    obtain ⟨A9, c9, rfl, _⟩ := hsu.form
    clear hsu hb7 hb57 hb07 hR d0 d1 d2 d3 HFr HCk
    go_wp2_with fail
    with_reducible refine HCf.out.mono ?_
    rintro e w8 (⟨rfl, rfl, hR5⟩ | ⟨rfl, rfl, hR5⟩)
    · rw [List.drop_length] at hR5
      have hte : tyErr 12 x = 0 := by
        unfold tyErr
        have hk : decide (4 ≤ x.kind) = false := by rw [← HX.out]; rfl
        rw [hk, HRc0.out, if_neg (by simp), if_neg]
        intro ha
        obtain ⟨w, hw, hw2⟩ := List.any_eq_true.1 ha
        have h12 := of_decide_eq_true hw2
        have : (freeP x).any (fun v => decide ((11 : Int) < v)) = true := List.any_eq_true.2 ⟨w, hw, decide_eq_true (by omega)⟩
        rw [HRR.out, hR5] at this
        cases this
      have hte2 : tyErr 12 (occT n [a]) = 0 := by rw [HX.out]; exact hte
      have hF8 : ∀ b, b < w3.heap.size + 1 → b < w8.heap.size := fun b hb => by omega
      have hT8 := HT5.out.later HB57.out
      have hU2 := unify_any 2 1 _ w8 _ (idS 12) (HS5.out.later HB57.out) hF8 (HZ5.out.keeps (Keeps.of_below (X := fun _ => False) HB57.out) (fun h => h)) (by rw [idS_len]; omega) (varT (n : Int)) x (.slice none 0 0) _ (varT_ok (wfI_nat (by omega))) hT8 8 (idS 12) (by rw [← HX.out]; exact unify_occ 12 0 0 n [a] hn12 (by omega) hte2)
      unfold tyV at hU2
      rw [idS_len] at hU2
      have HU2 := Lib.hid hU2
      have HTe := Lib.hid hte
      clear hU2 hT8 hte hte2 hR5 HCf
      go_wp2_with fail
      refine HU2.out.mono ?_
      rintro e w9 ⟨hb9, (⟨_, rfl⟩ | ⟨h, _⟩)⟩
      rotate_left
      · exact absurd h (by decide)
      have hb59 : Below W5.heap.size W5 w9 := HB57.out.trans (hb9.mono HB57.out.size)
      have hF9 : ∀ b, b < w3.heap.size + 1 → b < w9.heap.size := fun b hb => by have := hb9.size; omega
      have hU3 := unify_any (nodes x + 1) (nodes x + 1) _ w9 _ (idS 12) (HS5.out.later hb59) hF9 (HZ5.out.keeps (Keeps.of_below (X := fun _ => False) hb59) (fun h => h)) (by rw [idS_len]; omega) x x _ _ (HT5.out.later hb59) (HT5.out.later hb59) 0 (idS 12) (unify_same 12 (nodes x) x (by omega) HTe.out (Nat.le_refl _))
      unfold tyV at hU3
      rw [idS_len] at hU3
      have HU3 := Lib.hid hU3
      have l0 := (hb9.cell (block_lt_of_cell g0)).trans g0
      have l1 := (hb9.cell (block_lt_of_cell g1)).trans g1
      have l2 := (hb9.cell (block_lt_of_cell g2)).trans g2
      have l3 := (hb9.cell (block_lt_of_cell g3)).trans g3
      have HB09 := Lib.hid (HB07.out.trans (hb9.mono HB07.out.size))
      clear hU3 hb9 hb59 g0 g1 g2 g3 HU2 hF8 hF9
      go_wp2_with fail
      refine HU3.out.mono ?_
      rintro e wt ⟨hbt, (⟨h, _⟩ | ⟨_, gt, capt, rfl, _⟩)⟩
      · exact absurd rfl h
      rw [idS_len]
      have HBt := Lib.hid (HB09.out.trans (hbt.mono HB09.out.size))
      clear hbt HU3
      go_wp2_with fail
      go_ret
      exact ⟨rfl, HBt.out⟩
    · clear hR5 HCf
      go_wp2_with fail
      go_ret
      exact ⟨rfl, HB07.out⟩
  · have h1b : (rc != 0) = true := bne_iff_ne.2 h1
    clear h1
    go_wp2_with fail
    rw [HW5.out, HB4.out]
    with_reducible refine HCk.out.mono ?_
    rintro e w6 ⟨rfl, hb6⟩
    have HB6 := Lib.hid ((HK0.out.below (fun _ h => h.elim) (Nat.le_refl _)).trans ((HB05.out.trans (hb6.mono HB05.out.size)).mono HK0.out.size))
    clear hb6
    go_wp2_with fail
    go_ret
    exact ⟨rfl, HB6.out⟩

theorem own : ownKnob Tryd.prog.godebug = none := by kernel_rfl
theorem gSizes : Tryd.prog.globalNamed "provenance/unify.sizes" = some 0 := by kernel_rfl
theorem szs_of_laid {W : World} (h : laidMetH Tryd.prog Rows.unifyOccursRow.laid W) : Szs W := by
  have h2 : laidMetH Tryd.prog [("provenance/unify.sizes", Lib.tabData .i64 [0, -1, 3, 1, 0, 2])] W := h
  rw [MakeChecks.laidMetH_plain _ _ _ (by kernel_rfl)] at h2
  have ht := Lib.tabIs_of_head gSizes (by kernel_rfl) Tryd.underlying112 Tryd.underlying3 (by kernel_rfl) (by kernel_rfl) h2
  unfold Lib.TabIs at ht
  exact ⟨by rw [World.var?_cell gSizes ht]; rfl, by rw [World.var?_cell gSizes ht]; rfl, by rw [World.var?_cell gSizes ht]; rfl, by rw [World.var?_cell gSizes ht]; rfl, by rw [World.var?_cell gSizes ht]; rfl, by rw [World.var?_cell gSizes ht]; rfl⟩

theorem laid : laidOutB Tryd.prog = true := by kernel_rfl

set_option maxRecDepth 100000 in
theorem lifted (os : Os) (started : os.Started) (H : Type) (enc : TypeId × Value → H) :
    ReturnsInHanded {} Tryd.checked os 5 .any (fun w args => (Rows.unifyOccursSpec.pre enc Tryd.prog Tryd.f5 [] false w args ∧ laidMetH Tryd.prog Rows.unifyOccursRow.laid w) ∧ sizedMet enc Tryd.prog Tryd.f5 (OpenSpec.ofChange Rows.unifyOccursSpec) false w args)
      (Rows.unifyOccursSpec.post enc Tryd.prog Tryd.f5 false true false false) := by
  refine handed_shaped_laid (C := Tryd.checked) (L := Rows.unifyOccursRow.laid) own started (by kernel_rfl) Tryd.func5
    (ChangeSpec.witness_shaped (enc := enc) (C := Tryd.checked) (os := os) (X := fun w _ => laidMetH Tryd.prog Rows.unifyOccursRow.laid w) false (World.laidAll Tryd.prog os Rows.unifyOccursRow.laid) #[.int .i64 0, .agg #[.int .i64 0, .string ⟨#[]⟩, .int .i64 0, .slice none 0 0]] 8 (World.laidAll_os _ _ _)
      (World.shaped_of_ZipB (by kernel_rfl) (by kernel_rfl)) (by kernel_rfl) (by kernel_rfl) (by kernel_rfl)
      (by rw [MakeChecks.laidMetH_plain _ _ _ (by kernel_rfl)]; exact laidMet_laidAll _ (by kernel_rfl) (by kernel_rfl))) ?_
  intro W base args ds gs before hval0 hW hsz0 _ hlaid
  have hz := szs_of_laid hlaid
  have hval : ∀ (j : Nat) t v, Tryd.f5.params[j]? = some t → args[j]? = some v → Value.okWide Tryd.prog W .any base t v := hval0
  have hW' := hW
  obtain ⟨p, q, hA0, hV, hbef, hfz, hnd⟩ := hW
  have hA : DataW.TrodAll enc Tryd.prog W 0 (fun _ => true) true Tryd.f5.params.toList args.toList ds p := hA0
  rw [Tryd.params5] at hA hval
  obtain ⟨v0, vs0, d0, ds0, p0, q0, hargs, hds, rfl, h0, r0⟩ := trodAll_cons hA
  obtain ⟨v1, vs1, d1, ds1, p1, q1, rfl, rfl, rfl, h1, r1⟩ := trodAll_cons r0
  obtain ⟨rfl, rfl, rfl⟩ := trodAll_nil r1
  obtain rfl : args = #[v0, v1] := by cases args; simp_all
  obtain ⟨rfl, _⟩ := trodVars_none hV
  subst hds
  obtain ⟨a0, rfl, rfl, rfl, s0⟩ := open_int Tryd.underlying3 (hval 0 3 v0 rfl rfl) h0
  obtain ⟨a1, c1, rfl, s1⟩ := rp_of_arg (f := tyD) Tryd.underlying45 (fun _ _ _ h => tyD.of_trod _ h) (hval 1 45 v1 rfl rfl) h1
  obtain ⟨av1, rfl, T1⟩ := tyD.rp.1 s1
  refine (walk a0 a1 av1 W T1 hz).mono fun e W' ⟨he, hb⟩ => ?_
  subst he
  exact ⟨_, rfl, law_post laid (by kernel_rfl) rfl Tryd.underlying4 rfl rfl rfl rfl hW' hb⟩

theorem over : Rows.unifyOccursRow.holds Tryd.pinned (OpenSpec.ofChange Rows.unifyOccursSpec) :=
  OpenClaim.holds_of_wide 5 Tryd.f5 rfl rfl rfl rfl rfl rfl rfl ⟨rfl, rfl, rfl, rfl, rfl⟩ rfl rfl rfl rfl rfl (by kernel_rfl) Tryd.func5 (by kernel_rfl)
    (of_decide_eq_true (by kernel_rfl)) (by unfold Func.isWrapper; first | (rw [if_pos (by decide +kernel)]; kernel_rfl) | (rw [if_neg (by decide +kernel)]; exact ⟨rfl, rfl⟩))
    (fun os started H enc _ => lifted os started H enc)

theorem proved : Rows.UnifyOccursCardSaid :=
  Claim7.holds_tied_plain_at .later [] [.data] true Rows.unifyOccursCard.stood.harness false over (fun _ h => by cases h) (by kernel_rfl) (fun _ h => by cases h) unifyOccurs_row_tie rfl ⟨rfl, rfl⟩ (by kernel_rfl) rfl
    (fun f fn hf hfn => by
      obtain rfl : f = 5 := Option.some.inj ((show Tryd.prog.funcNamed Tryd.f5.name = some 5 by kernel_rfl).symm.trans hf) |>.symm
      obtain rfl : fn = Tryd.f5 := (Option.some.inj (Tryd.func5.symm.trans hfn)).symm
      exact ⟨by kernel_rfl, fun j t ht => by
        rw [Tryd.params5] at ht
        have hm : t ∈ [3, 45] := by simpa using Array.mem_of_getElem? ht
        have hall : ([3, 45].all fun u => !Tryd.prog.wantsStandIn u) = true := by kernel_rfl
        exact (show Tryd.prog.wantsStandIn t = false by simpa using List.all_eq_true.1 hall t hm)⟩)
    (by kernel_rfl)
#print axioms proved
end Go.Proofs.YtjofndhbpglfgaaDoor.unifyOccurs

