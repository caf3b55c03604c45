/- kinds.Infer, where no kinds are known. -/
import Derived.Test.YtjofndhbpglfgaaDoorKInfD
namespace Go.Proofs.YtjofndhbpglfgaaDoor
open Go.RowKit Go.Shelf

set_option maxRecDepth 100000 in
set_option maxHeartbeats 32000000 in
theorem infer_any (datas : List DataSig) (dv : Value) (W : World) (hd : Sl W (· < W.heap.size) DataSig.d datas dv) (hz : Szs W) :
    Calls Tryd.prog 12 #[.slice none 0 0, dv] W (InfPost datas W) := by
  obtain ⟨i0, hi0, hz0, hz1, hz2⟩ := info_parts infoIntK
  obtain ⟨i1, hi1, hy0, hy1, hy2⟩ := info_parts infoKind
  obtain ⟨DA, dc, rfl, hdl, hdm, _⟩ := hd.form
  have hlm : datas.length ≤ 9223372036854775807 := by unfold maxLen at hdm; omega
  obtain ⟨Z, hZ⟩ : ∃ Z, W.heap.size = Z := ⟨_, rfl⟩
  have hZ0 : 0 < Z := by have := block_lt_of_cell hz.c0; dsimp at this; omega
  have HC1 := Lib.hid (kcheck_any [] (.slice none 0 0) (fun _ => False) W Sl.nil_)
  rw [show chkK [] = 0 by decide] at HC1
  have HD := Lib.hid hd
  have HZ := Lib.hid hZ
  have HSz := Lib.hid hz
  clear hd hZ hz
  go_enter Tryd.func12, Tryd.ntmps12
  go_wp2_with fail
  with_reducible refine HC1.out.mono ?_
  rintro e w1 ⟨rfl, hb1⟩
  have hz1' := hb1.size
  have HB1 := Lib.hid hb1
  clear hb1
  by_cases hl : 4096 < datas.length
  · have hlb : (4096 : Int) < (datas.length : Int) := by omega
    go_wp2_with fail
    go_ret2
    exact ⟨HB1.out, .inr ⟨fun s h => absurd h.1 (by omega), 2, by decide, rfl⟩⟩
  have hlb : ¬ (4096 : Int) < (datas.length : Int) := by omega
  have HSt := Lib.hid (started_any [] datas (.slice none 0 0) _ w1 Sl.nil_ ((HD.out.later HB1.out).mono (fun b hb => Nat.lt_of_lt_of_le hb hz1')))
  obtain ⟨B, hB⟩ : ∃ B, w1.heap.size = B := ⟨_, rfl⟩
  unfold StartPost at HSt
  rw [hB] at HSt hz1'
  have HBe := Lib.hid hB
  clear hB
  go_wp2_with fail
  with_reducible refine HSt.out.mono ?_
  rintro e w2 ⟨hb2, p, uv0, cv0, rfl, hS0⟩
  have HB2 := Lib.hid (show Below Z W w2 by rw [← HZ.out]; exact HB1.out.trans (hb2.mono hz1'))
  have hz2' := hb2.size
  rw [HBe.out] at hz2'
  have HS0 := Lib.hid hS0
  clear hb2 hS0
  go_wp2_with fail
  go_loopw [8, 9, 10, 11, 40] (fun _ _ _ _ i wr => ∃ (j : Nat) (fv uv cv : Value), j ≤ datas.length ∧ i = .int .i64 j ∧ Below B w2 wr ∧ Sv wr B p [] datas (firstsOf (datas.take j) 3) (up0 (total (datas.take j))) (kind0 (total (datas.take j))) (.slice none 0 0) (.slice DA datas.length dc) fv uv cv ∧ PreTo datas j) (fun _ _ _ _ i _ => datas.length - (intOf i).toNat)
  case atStart => exact ⟨0, _, _, _, Nat.zero_le _, rfl, Below.refl _ _, by simpa [firstsOf, total, up0, kind0, List.range_succ] using HS0.out, fun i d h => absurd h (by omega)⟩
  case round =>
    obtain ⟨j, fv, uv, cv, hj, rfl, hb, hS, hP⟩ := hrel
    have hbz := hb.size
    have hjm : j ≤ 4096 := by omega
    obtain ⟨m, hm⟩ : ∃ m, total (datas.take j) = m := ⟨_, rfl⟩
    have hmb : m ≤ 65536 := by rw [← hm]; exact hP.total (by omega)
    rw [hm] at hS
    by_cases hlt : j < datas.length
    · obtain ⟨d, hd⟩ : ∃ d, datas[j]? = some d := ⟨_, List.getElem?_eq_getElem hlt⟩
      obtain ⟨gd, off, cons, hadr, hgd, e0, e1, e2, hns, hpw, hcons⟩ := DataSig.get hS.dt hlt
      obtain rfl := hadr
      have hdj : datas[j] = d := by rw [List.getElem?_eq_getElem hlt] at hd; exact Option.some.inj hd
      rw [hdj] at e0 e1 hpw hcons
      obtain ⟨CA, cc, rfl, _⟩ := hcons.form
      have hgz := block_lt_of_cell e0
      obtain ⟨fs, hfs⟩ : ∃ fs, firstsOf (datas.take j) 3 = fs := ⟨_, rfl⟩
      obtain ⟨up, hup⟩ : ∃ up, up0 m = up := ⟨_, rfl⟩
      obtain ⟨kind, hkind⟩ : ∃ kind, kind0 m = kind := ⟨_, rfl⟩
      rw [hfs, hup, hkind] at hS
      have hul : up.length = 3 + m := by rw [← hup]; simp
      have hfl : fs.length = j := by rw [← hfs]; simp; omega
      obtain ⟨b, hb0⟩ : ∃ b, wr.heap.size = b := ⟨_, rfl⟩
      obtain ⟨W3, hW3⟩ : ∃ W3, wr.alloc (.cells #[.string d.name, .int .i64 d.params, .slice CA d.cons.length cc] 32) = W3 := ⟨_, rfl⟩
      have hk3 : Keeps (fun _ => False) wr W3 := by rw [← hW3]; exact (Keeps.refl _ _).alloc _
      have hbk : Blk W3 b 32 [.string d.name, .int .i64 d.params, .slice CA d.cons.length cc] := by rw [← hW3, ← hb0]; exact Blk.new wr _ [_, _, _]
      have k0 := hbk.cell (i := 0) rfl
      have k1 := hbk.cell (i := 1) rfl
      have hbl := hbk.lt
      have hz3 := hk3.size
      have hpb : p < b := by have := hS.blk.lt; omega
      have HFi := Lib.hid (find_any [] d.name (.slice none 0 0) (fun _ => False) W3 Sl.nil_)
      have HS := Lib.hid hS
      have HB := Lib.hid hb
      have HP := Lib.hid hP
      have HW3 := Lib.hid hW3
      have HB0 := Lib.hid hb0
      have HK3 := Lib.hid hk3
      have HBk := Lib.hid hbk
      have HFs := Lib.hid hfs
      have HUp := Lib.hid (And.intro hup hkind)
      have HM := Lib.hid hm
      have HD1 := Lib.hid hd
      have HFl := Lib.hid hfl
      have HUl := Lib.hid hul
      have j0 : (0 : Int) ≤ (j : Int) := by omega
      have j1 : (j : Int) < (datas.length : Int) := by omega
      have j2 : (j : Int) ≤ (dc : Int) := by omega
      have HNo : Hid (∀ s, PreTo datas (j + 1) ∨ ¬ InfOK datas s) := fun s => by
        by_cases h : PreTo datas (j + 1)
        · exact .inl h
        · exact .inr (fun h' => h (fun i e hi he => h'.2.1 i e (by omega) he))
      have HLow := Lib.hid (show Z ≤ B ∧ B ≤ wr.heap.size ∧ B ≤ p from ⟨by have := HZ.out; omega, Nat.le_trans hz2' hbz, hS.low⟩)
      clear hS hb hP hW3 hb0 hk3 hbk hfs hup hkind hm hd hdj hcons hfl hul
      go_wp2_with fail
      rw [HW3.out, HB0.out]
      clear e0 e1 e2
      with_reducible refine HFi.out.mono ?_
      rintro e w4 ⟨hb4, (⟨k', v', hk', _⟩ | ⟨_, rfl⟩)⟩
      · cases hk'
      have HK4 := Lib.hid (HK3.out.trans (Keeps.of_below (X := fun _ => False) hb4) (fun _ _ h => h))
      have HBk4 := Lib.hid (HBk.out.later hb4)
      have g0 := HBk4.out.cell (i := 0) rfl
      have eg : Enters Tryd.prog 41 := enters_of Tryd.func41 (by kernel_rfl) rfl
      have HCo := Lib.hid (dataSigContainsFunc (datas.take j) (.slice (some ⟨gd, off, none⟩) j dc) (· < B) w4 ((HS.out.same HK4.out).dt.take (by omega)) 41 #[.pointer (some ⟨b, 0, none⟩)] (fun x => x.name.toList == d.name.toList) eg (fun i hi cs w5 hb5 hr => infer_clo _ d _ w5 b cs ((hb5.cell (block_lt_of_cell g0)).trans g0) hr))
      change Hid (Calls _ _ _ _ fun e w' => e = .returned (.bool (twiceAt datas j d.name)) ∧ _) at HCo
      clear hb4 eg
      cases htw : twiceAt datas j d.name
      case «true» =>
        rw [htw] at HCo
        have HTw := Lib.hid htw
        clear htw
        go_wp2_with fail
        with_reducible refine HCo.out.mono ?_
        rintro e w5 ⟨rfl, hb5⟩
        have HBf := Lib.hid (show Below W.heap.size W w5 by
          rw [HZ.out]
          exact (HB2.out.trans (HB.out.mono HLow.out.1)).trans ((HK4.out.trans (Keeps.of_below (X := fun _ => False) hb5) (fun _ _ h => h)).below (fun _ h => h.elim) (Nat.le_trans HLow.out.1 HLow.out.2.1)))
        clear hb5
        go_wp2_with fail
        go_ret2
        exact ⟨HBf.out, .inr ⟨fun s h => (by have := (h.2.1 j d (by omega) HD1.out).1; rw [HTw.out] at this; cases this), 7, by decide, rfl⟩⟩
      case «false» =>
      rw [htw] at HCo
      have HTw := Lib.hid htw
      clear htw
      go_wp2_with fail
      with_reducible refine HCo.out.mono ?_
      rintro e w5 ⟨rfl, hb5⟩
      have HK5 := Lib.hid (HK4.out.trans (Keeps.of_below (X := fun _ => False) hb5) (fun _ _ h => h))
      have HBk5 := Lib.hid (HBk4.out.later hb5)
      have hz5 := HK5.out.size
      have HB5 := Lib.hid (show Below Z W w5 from (HB2.out.trans (HB.out.mono HLow.out.1)).trans (HK5.out.below (fun _ h => h.elim) (Nat.le_trans HLow.out.1 HLow.out.2.1)))
      have m0 := HBk5.out.cell (i := 0) rfl
      have m1 := HBk5.out.cell (i := 1) rfl
      clear hb5 g0 k0 k1
      by_cases hp0 : d.params < 0
      · go_wp2_with fail
        go_ret2
        exact ⟨by rw [HZ.out]; exact HB5.out, .inr ⟨fun s h => (by have := (h.2.1 j d (by omega) HD1.out).2; omega), 4, by decide, rfl⟩⟩
      by_cases hp16 : 16 < d.params
      · go_wp2_with fail
        go_ret2
        exact ⟨by rw [HZ.out]; exact HB5.out, .inr ⟨fun s h => (by have := (h.2.1 j d (by omega) HD1.out).2; omega), 4, by decide, rfl⟩⟩
      obtain ⟨dn, hdn⟩ : ∃ dn : Nat, d.params = (dn : Int) := ⟨d.params.toNat, by omega⟩
      have HP1 := Lib.hid (HP.out.succ HD1.out HTw.out (by omega) (by omega))
      rw [hdn] at hp0 hp16 m1
      have HDn := Lib.hid hdn
      have hd0 : (0 : Int) ≤ (dn : Int) := by omega
      have hd16 : dn ≤ 16 := by omega
      have hS5 := HS.out.same HK5.out
      obtain ⟨U, uc, hu, _⟩ := own_shape hS5.uo
      have HS5 := Lib.hid hS5
      have HFo := Lib.hid hS5.fo
      obtain ⟨FX, hFX⟩ : ∃ l, ints fs = l := ⟨_, rfl⟩
      rw [hFX] at HFo
      have HFX := Lib.hid hFX
      have c2 := hS5.blk.cell (i := 2) rfl
      have c3 := hS5.blk.cell (i := 3) rfl
      have f2 := hS5.blk.free 2
      have hpl := hS5.blk.lt
      have hnF := own_not hS5.fo hS5.blk (by decide)
      have HNB := Lib.hid (show ¬ (fv.ownBlock = some b ∨ b = p) from fun h => h.elim (fun h => by have := (HS.out.fo.lt b h).2; have := HB0.out; omega) (fun h => by omega))
      have HMf := Lib.hid (show fs.length + 1 ≤ maxLen by have := HFl.out; unfold maxLen; omega)
      have HBf := Lib.hid (show (fs.length + 1) * 8 ≤ 140737488355328 by have := HFl.out; omega)
      have HBZ := Lib.hid (show B ≤ w5.heap.size from Nat.le_trans HLow.out.2.1 hz5)
      have hq1 : (up.length : Int) ≤ 1000000 := by have := HUl.out; omega
      subst hu
      have hQ : Hid (∀ X, Keeps (fun i => fv.ownBlock = some i) w5 X → (X.cell? ⟨p, 2, none⟩ = some fv ∧ X.cell? ⟨p, 3, none⟩ = some (.slice U up.length uc))) := fun X hk => ⟨hk.cell c2 hnF, hk.cell c3 hnF⟩
      clear hS5 hFX hdn
      go_wp2_with fail
      refine wp_region_noPanic ?_
      refine wp_region_till [14] (fun X => X.cell? ⟨p, 2, none⟩ = some fv ∧ X.cell? ⟨p, 3, none⟩ = some (.slice U up.length uc)) (by kernel_rfl) ?_ (fun hE => ?_)
      · exact hQ.out _ (by repeat (first | (with_reducible assumption) | (with_reducible exact Keeps.refl _ _) | (with_reducible refine Keeps.drewN ?_ _) | (with_reducible refine Keeps.drew ?_) | with_reducible refine Keeps.setCell ?_ (by first | (intro _; exact rfl) | (intro _; exact Or.inl rfl) | (intro _; exact Or.inr rfl) | (simp; done) | (simp; omega)) _ | (with_reducible refine Keeps.alloc ?_ _)))
      have hS := hE (by kernel_rfl)
      refine wpAnyT_pure (i := 0) (oi := { dst := some 68, op := Op.move (Operand.tmp 7), type := 73, pos := "kinds.go:169", after := #[], guard := none }) (v := ?v15_0) rfl (by kernel_rfl) (fun _ _ _ h => h) (Or.inl ⟨by rfl, ?y15_0⟩) (fun _ => hS) ?_
      case y15_0 => (intro w hSw; go_simp; try with_reducible rfl)
      try simp only [Act.put, List.setIfInBounds_toArray, List.set_cons_zero, List.set_cons_succ]
      refine wpAnyT_pure (i := 1) (oi := { dst := some 69, op := Op.move (Operand.tmp 7), type := 73, pos := "kinds.go:169", after := #[], guard := none }) (v := ?v15_1) rfl (by kernel_rfl) (fun _ _ _ h => h) (Or.inl ⟨by rfl, ?y15_1⟩) (fun _ => hS) ?_
      case y15_1 => (intro w hSw; go_simp; try with_reducible rfl)
      try simp only [Act.put, List.setIfInBounds_toArray, List.set_cons_zero, List.set_cons_succ]
      refine wpAnyT_pure (i := 2) (oi := { dst := some 70, op := Op.nilCheck (Operand.tmp 69), type := 0, pos := "kinds.go:169", after := #[{ on := 1, ground := Ground.data }], guard := none }) (v := ?v15_2) rfl (by kernel_rfl) (fun _ _ _ h => h) (Or.inl ⟨by rfl, ?y15_2⟩) (fun _ => hS) ?_
      case y15_2 => (intro w hSw; go_simp; try with_reducible rfl)
      try simp only [Act.put, List.setIfInBounds_toArray, List.set_cons_zero, List.set_cons_succ]
      refine wpAnyT_pure (i := 3) (oi := { dst := some 71, op := Op.fieldAddr 76 (Operand.tmp 70) 2, type := 0, pos := "kinds.go:169", after := #[{ on := 2, ground := Ground.data }], guard := none }) (v := ?v15_3) rfl (by kernel_rfl) (fun _ _ _ h => h) (Or.inl ⟨by rfl, ?y15_3⟩) (fun _ => hS) ?_
      case y15_3 => (intro w hSw; go_simp; try with_reducible rfl)
      try simp only [Act.put, List.setIfInBounds_toArray, List.set_cons_zero, List.set_cons_succ]
      refine wpAnyT_take (i := 4) (oi := { dst := some 72, op := Op.load 27 (Operand.tmp 71), type := 27, pos := "kinds.go:169", after := #[{ on := 3, ground := Ground.data }], guard := none }) (v := ?v15_4) rfl (by kernel_rfl) (fun _ _ _ h => h) (Or.inl ⟨by rfl, ?y15_4⟩) hS ?_
      case y15_4 => (intro w hSw; (try dsimp only at hSw); go_simp; try with_reducible rfl)
      try simp only [Act.put, List.setIfInBounds_toArray, List.set_cons_zero, List.set_cons_succ]
      refine wpAnyT_pure (i := 5) (oi := { dst := some 73, op := Op.move (Operand.tmp 7), type := 73, pos := "kinds.go:169", after := #[], guard := none }) (v := ?v15_5) rfl (by kernel_rfl) (fun _ _ _ h => h) (Or.inl ⟨by rfl, ?y15_5⟩) (fun _ => hS) ?_
      case y15_5 => (intro w hSw; go_simp; try with_reducible rfl)
      try simp only [Act.put, List.setIfInBounds_toArray, List.set_cons_zero, List.set_cons_succ]
      refine wpAnyT_pure (i := 6) (oi := { dst := some 74, op := Op.nilCheck (Operand.tmp 73), type := 0, pos := "kinds.go:169", after := #[{ on := 5, ground := Ground.data }], guard := none }) (v := ?v15_6) rfl (by kernel_rfl) (fun _ _ _ h => h) (Or.inl ⟨by rfl, ?y15_6⟩) (fun _ => hS) ?_
      case y15_6 => (intro w hSw; go_simp; try with_reducible rfl)
      try simp only [Act.put, List.setIfInBounds_toArray, List.set_cons_zero, List.set_cons_succ]
      refine wpAnyT_pure (i := 7) (oi := { dst := some 75, op := Op.fieldAddr 76 (Operand.tmp 74) 3, type := 0, pos := "kinds.go:169", after := #[{ on := 6, ground := Ground.data }], guard := none }) (v := ?v15_7) rfl (by kernel_rfl) (fun _ _ _ h => h) (Or.inl ⟨by rfl, ?y15_7⟩) (fun _ => hS) ?_
      case y15_7 => (intro w hSw; go_simp; try with_reducible rfl)
      try simp only [Act.put, List.setIfInBounds_toArray, List.set_cons_zero, List.set_cons_succ]
      refine wpAnyT_take (i := 8) (oi := { dst := some 76, op := Op.load 27 (Operand.tmp 75), type := 27, pos := "kinds.go:169", after := #[{ on := 7, ground := Ground.data }], guard := none }) (v := ?v15_8) rfl (by kernel_rfl) (fun _ _ _ h => h) (Or.inl ⟨by rfl, ?y15_8⟩) hS ?_
      case y15_8 => (intro w hSw; (try dsimp only at hSw); go_simp; try with_reducible rfl)
      try simp only [Act.put, List.setIfInBounds_toArray, List.set_cons_zero, List.set_cons_succ]
      refine wpAnyT_pure (i := 9) (oi := { dst := some 77, op := Op.call { callee := Callee.builtin Builtin.len, args := #[Operand.tmp 76], argTypes := #[27] }, type := 3, pos := "kinds.go:169", after := #[{ on := 8, ground := Ground.data }], guard := none }) (v := ?v15_9) rfl (by kernel_rfl) (fun _ _ _ h => h) (Or.inl ⟨by rfl, ?y15_9⟩) (fun _ => hS) ?_
      case y15_9 => (intro w hSw; go_simp; try with_reducible rfl)
      try simp only [Act.put, List.setIfInBounds_toArray, List.set_cons_zero, List.set_cons_succ]
      refine wpAnyT_ready (rs := [10]) (by kernel_rfl) rfl ?_
      refine AllT.cons (o := { dst := some 78, op := Op.buildSlice 27 1 #[(0, Operand.tmp 77)], type := 27, pos := "kinds.go:169", after := #[{ on := 9, ground := Ground.data }], guard := none }) rfl (fun K hK => ?_) ?_
      · go_simp
        refine hK.out _ _ (fun _ => ?_) (fun hE => ?_)
        · exact hQ.out _ (by repeat (first | (with_reducible assumption) | (with_reducible exact Keeps.refl _ _) | (with_reducible refine Keeps.drewN ?_ _) | (with_reducible refine Keeps.drew ?_) | with_reducible refine Keeps.setCell ?_ (by first | (intro _; exact rfl) | (intro _; exact Or.inl rfl) | (intro _; exact Or.inr rfl) | (simp; done) | (simp; omega)) _ | (with_reducible refine Keeps.alloc ?_ _)))
        have hS := hE (by kernel_rfl)
        clear hK K hE
        try simp only [Act.put, List.setIfInBounds_toArray, List.set_cons_zero, List.set_cons_succ]
        refine wpAnyT_ready (rs := [11]) (by kernel_rfl) rfl ?_
        refine AllT.cons (o := { dst := some 79, op := Op.call { callee := Callee.builtin Builtin.append, args := #[Operand.tmp 72, Operand.tmp 78], argTypes := #[27, 27] }, type := 27, pos := "kinds.go:169", after := #[{ on := 4, ground := Ground.data }, { on := 10, ground := Ground.data }], guard := none }) rfl (fun K hK => ?_) ?_
        · (refine step_append_kept (W0 := w5) rfl (.tmp 72) (.tmp 78) 27 rfl B 3 i0 _ 1 8 Tryd.underlying27 hi0 hz0 hz1 hz2 rfl (by decide) fv fs.length FX rfl HFo.out (by repeat (first | with_reducible exact Keeps.refl _ _ | with_reducible refine Keeps.drew ?_ | with_reducible refine Keeps.alloc ?_ _)) _ _ #[.int .i64 (up.length : Int)] rfl rfl (by first | exact heap_new_at (by simp) | exact heap_up (heap_new_at (by simp)) _) (by simp [Value.oneCell']) HMf.out HBf.out HBZ.out ?_; intro gg1 cap1 w6 hown1 hk1 _ hat1; have q2 := hk1.cell c2 hnF; have qf2 := hk1.frozen f2 hpl hnF; have qz := Nat.lt_of_lt_of_le hpl hk1.size)
          refine hK.out _ _ (fun _ => ?_) (fun hE => ?_)
          · exact hQ.out _ (by repeat (first | (with_reducible assumption) | (with_reducible exact Keeps.refl _ _) | (with_reducible refine Keeps.drewN ?_ _) | (with_reducible refine Keeps.drew ?_) | with_reducible refine Keeps.setCell ?_ (by first | (intro _; exact rfl) | (intro _; exact Or.inl rfl) | (intro _; exact Or.inr rfl) | (simp; done) | (simp; omega)) _ | (with_reducible refine Keeps.alloc ?_ _)))
          have hS := hE (by kernel_rfl)
          clear hK K hE
          try simp only [Act.put, List.setIfInBounds_toArray, List.set_cons_zero, List.set_cons_succ]
          refine wpAnyT_pure (i := 12) (oi := { dst := some 80, op := Op.nilCheck (Operand.tmp 68), type := 0, pos := "kinds.go:169", after := #[{ on := 0, ground := Ground.data }, { on := 0, ground := Ground.phase }, { on := 1, ground := Ground.phase }, { on := 2, ground := Ground.phase }, { on := 3, ground := Ground.phase }, { on := 4, ground := Ground.phase }, { on := 5, ground := Ground.phase }, { on := 6, ground := Ground.phase }, { on := 7, ground := Ground.phase }, { on := 8, ground := Ground.phase }, { on := 9, ground := Ground.phase }, { on := 10, ground := Ground.phase }, { on := 11, ground := Ground.phase }], guard := none }) (v := ?v15_12) rfl (by kernel_rfl) (fun _ _ _ h => h) (Or.inl ⟨by rfl, ?y15_12⟩) (fun _ => hS) ?_
          case y15_12 => (intro w hSw; go_simp; try with_reducible rfl)
          try simp only [Act.put, List.setIfInBounds_toArray, List.set_cons_zero, List.set_cons_succ]
          refine wpAnyT_pure (i := 13) (oi := { dst := some 81, op := Op.fieldAddr 76 (Operand.tmp 80) 2, type := 0, pos := "kinds.go:169", after := #[{ on := 12, ground := Ground.data }, { on := 0, ground := Ground.phase }, { on := 1, ground := Ground.phase }, { on := 2, ground := Ground.phase }, { on := 3, ground := Ground.phase }, { on := 4, ground := Ground.phase }, { on := 5, ground := Ground.phase }, { on := 6, ground := Ground.phase }, { on := 7, ground := Ground.phase }, { on := 8, ground := Ground.phase }, { on := 9, ground := Ground.phase }, { on := 10, ground := Ground.phase }, { on := 11, ground := Ground.phase }], guard := none }) (v := ?v15_13) rfl (by kernel_rfl) (fun _ _ _ h => h) (Or.inl ⟨by rfl, ?y15_13⟩) (fun _ => hS) ?_
          case y15_13 => (intro w hSw; go_simp; try with_reducible rfl)
          try simp only [Act.put, List.setIfInBounds_toArray, List.set_cons_zero, List.set_cons_succ]
          refine wpAnyT_ready (rs := [14]) (by kernel_rfl) rfl ?_
          refine AllT.cons (o := { dst := none, op := Op.store 27 (Operand.tmp 81) (Operand.tmp 79), type := 0, pos := "kinds.go:169", after := #[{ on := 13, ground := Ground.data }, { on := 11, ground := Ground.data }, { on := 11, ground := Ground.chain }, { on := 0, ground := Ground.phase }, { on := 1, ground := Ground.phase }, { on := 2, ground := Ground.phase }, { on := 3, ground := Ground.phase }, { on := 4, ground := Ground.phase }, { on := 5, ground := Ground.phase }, { on := 6, ground := Ground.phase }, { on := 7, ground := Ground.phase }, { on := 8, ground := Ground.phase }, { on := 9, ground := Ground.phase }, { on := 10, ground := Ground.phase }, { on := 11, ground := Ground.phase }], guard := none }) rfl (fun K hK => ?_) ?_
          · go_simp
            refine hK.out _ _ (fun he => Bool.noConfusion (show false = true from he)) (fun hE => ?_)
            clear hK K hE
            try simp only [Act.put, List.setIfInBounds_toArray, List.set_cons_zero, List.set_cons_succ]
            refine wpAnyT_done (by kernel_rfl) ?_ _
            refine NoPanic.normal ?_
            obtain ⟨hSv, hBel⟩ := HS5.out.firsted HBZ.out up.length (by rw [HFX.out]; exact hown1) hk1 hat1
            have kb := (hk1.mono (Y := fun i => fv.ownBlock = some i ∨ i = p) (fun i _ h => .inl h)).setCell (p := ⟨p, 2, none⟩) (fun _ => .inr rfl) (.slice (some ⟨gg1, 0, none⟩) (fs.length + 1) cap1)
            have z1 := kb.cell m1 HNB.out
            have z0 := kb.cell m0 HNB.out
            obtain ⟨W7, hW7⟩ : ∃ W7, w6.setCell ⟨p, 2, none⟩ (.slice (some ⟨gg1, 0, none⟩) (fs.length + 1) cap1) = W7 := ⟨_, rfl⟩
            have HW7 := Lib.hid hW7
            rw [hW7] at hSv hBel z1 z0 ⊢
            have HS7 := Lib.hid hSv
            have HB7 := Lib.hid hBel
            clear hSv hBel kb hown1 hk1 hat1 q2 qf2 qz hW7 m0 m1 hQ
            go_wp2_with fail
            go_loopw [84] (fun i wi => ∃ (q : Nat) (uv cv : Value), q ≤ dn ∧ i = .int .i64 q ∧ Below B W7 wi ∧ Sv wi B p [] datas (fs ++ [up.length]) (up0 (m + q)) (kind0 (m + q)) (.slice none 0 0) (.slice (some ⟨gd, off, none⟩) datas.length dc) (.slice (some ⟨gg1, 0, none⟩) (fs.length + 1) cap1) uv cv) (fun i _ => dn - (intOf i).toNat)
            case atStart => exact ⟨0, _, _, Nat.zero_le _, rfl, Below.refl _ _, by rw [Nat.add_zero, HUp.out.1, HUp.out.2]; exact HS7.out⟩
            case round =>
              obtain ⟨q, uv2, cv2, hq, rfl, hbi, hSi⟩ := hrel
              have hbiz := hbi.size
              have hB7z := HB7.out.size
              have hBZo := HBZ.out
              have q0 : (0 : Int) ≤ (q : Int) := by omega
              have q9 : (dn : Int) ≤ 16 := by omega
              by_cases hlq : q < dn
              · have q1 : (q : Int) < (dn : Int) := by omega
                have HSl := Lib.hid (slot_any hSi (by simp; omega) (by simp; omega) (by omega) (-1))
                rw [up0_succ, kind0_succ] at HSl
                have HBi := Lib.hid hbi
                clear hbi hSi
                go_wp2_with fail
                with_reducible refine HSl.out.mono ?_
                rintro e w8 ⟨rfl, hb8, uv3, cv3, hS8⟩
                have HB8 := Lib.hid (HBi.out.trans hb8)
                have HS8 := Lib.hid hS8
                clear hb8 hS8
                go_wp2_with fail
                go_roundw
                case rel => exact ⟨q + 1, uv3, cv3, by omega, by go_num, HB8.out, HS8.out⟩
                case measure => simp [intOf]; omega
              · obtain rfl : q = dn := by omega
                have q1 : ¬ (q : Int) < (q : Int) := by omega
                have HBi := Lib.hid hbi
                have HSi := Lib.hid hSi
                clear hbi hSi
                go_wp2_with fail
                go_roundw
                case rel =>
                  refine ⟨j + 1, .slice (some ⟨gg1, 0, none⟩) (fs.length + 1) cap1, uv2, cv2, by omega, by go_num, ?_, ?_, HP1.out⟩
                  · exact HB.out.trans ((HK5.out.below (fun _ h => h.elim) HLow.out.2.1).trans (HB7.out.trans HBi.out))
                  · rw [firstsOf_take_succ HD1.out, total_take_succ HD1.out, HFs.out, HM.out, HDn.out, Int.toNat_natCast, ← HUl.out]; exact HSi.out
                case measure => simp [intOf]; omega
          exact AllT.nil
        exact AllT.nil
      exact AllT.nil
    · obtain rfl : j = datas.length := by omega
      rw [List.take_length] at hS hm
      have hsl0 := slots0 hP
      obtain ⟨fs, hfs⟩ : ∃ fs, firstsOf datas 3 = fs := ⟨_, rfl⟩
      rw [hfs] at hS hsl0
      rw [hm] at hsl0
      have hfl : fs.length = datas.length := by rw [← hfs]; simp
      obtain ⟨RA, hRA⟩ : ∃ RA, runT datas fs (tasks datas fs datas) (up0 m, kind0 m) = RA := ⟨_, rfl⟩
      have HInf : Hid (∀ s, InfOK datas s ↔ RA = some s) := fun s => by
        unfold InfOK
        rw [hfs, hm, hRA]
        exact ⟨fun h => h.2.2, fun h => ⟨by omega, hP, h⟩⟩
      have HRA : Hid (RA = runT datas fs (tasks datas fs (datas.drop 0)) (up0 m, kind0 m)) := by rw [List.drop_zero]; exact hRA.symm
      have HSl := Lib.hid hsl0
      have HFl := Lib.hid hfl
      have HFs := Lib.hid hfs
      have HPar := Lib.hid hP.par
      have HMx : Hid (∀ i ∈ fs, i ≤ 1000000) := fun i hi => Nat.le_trans (hsl0.fst (Nat.le_refl _) i hi) (by omega)
      have hBw : B ≤ wr.heap.size := Nat.le_trans hz2' hbz
      have hZB : Z ≤ B := by have := HZ.out; omega
      have HTwo : Hid (∀ i, Two uv cv i → B ≤ i ∧ i < wr.heap.size) := fun i h => h.elim (fun h => hS.uo.lt i h) (fun h => hS.co.lt i h)
      have HW1 := Lib.hid (show Below W.heap.size W wr by rw [HZ.out]; exact HB2.out.trans (hb.mono hZB))
      have HEx : Hid (∀ X, Keeps (Two uv cv) wr X → Below W.heap.size W X ∧ Szs X) := fun X hk => by
        have h1 : Below W.heap.size W X := HW1.out.trans (by rw [HZ.out]; exact hk.below (fun i h => Nat.le_trans hZB (HTwo.out i h).1) (Nat.le_trans hZB hBw))
        exact ⟨h1, HSz.out.below h1 (by rw [HZ.out]; exact hZ0)⟩
      have HI0 := Lib.hid (inv0 m)
      have HS := Lib.hid hS
      have hj1 : ¬ (datas.length : Int) < (datas.length : Int) := by omega
      clear hS hb hP hm hsl0 hfs hfl hRA
      go_wp2_with fail
      obtain ⟨w3, rfl⟩ : ∃ w3, w3 = wr := ⟨_, rfl⟩
      go_loopw [12, 13, 14, 15, 92] (fun _ _ _ _ i wr => ∃ (j : Nat) (s : St), j ≤ datas.length ∧ i = .int .i64 j ∧ Keeps (Two uv cv) w3 wr ∧ Kinv s ∧ Ran s.2 ∧ s.1.length = 3 + m ∧ Sv wr B p [] datas fs s.1 s.2 (.slice none 0 0) (.slice DA datas.length dc) fv uv cv ∧ Hid (RA = runT datas fs (tasks datas fs (datas.drop j)) s)) (fun _ _ _ _ i _ => datas.length - (intOf i).toNat)
      case atStart => exact ⟨0, _, Nat.zero_le _, rfl, Keeps.refl _ _, HI0.out, ran0 m, by simp, HS.out, HRA⟩
      case round =>
        obtain ⟨j, s, hj, rfl, hk, hI, hRn, hsl, hS, hR⟩ := hrel
        have hkz := hk.size
        have j0 : (0 : Int) ≤ (j : Int) := by omega
        by_cases hlt : j < datas.length
        · obtain ⟨d, hd⟩ : ∃ d, datas[j]? = some d := ⟨_, List.getElem?_eq_getElem hlt⟩
          obtain ⟨gd, off, cons, hadr, hgd, e0, e1, e2, hns, hpw, hcons⟩ := DataSig.get hS.dt hlt
          obtain rfl := hadr
          have hdj : datas[j] = d := by rw [List.getElem?_eq_getElem hlt] at hd; exact Option.some.inj hd
          rw [hdj] at e0 e1 hpw hcons
          obtain ⟨CA, cc, rfl, hcl1, hcl2, _⟩ := hcons.form
          have hcmx : d.cons.length ≤ 9223372036854775807 := by unfold maxLen at hcl2; omega
          have hgz := block_lt_of_cell e0
          obtain ⟨b, hb0⟩ : ∃ b, wr.heap.size = b := ⟨_, rfl⟩
          obtain ⟨W4, hW4⟩ : ∃ W4, wr.alloc (.cells #[.string d.name, .int .i64 d.params, .slice CA d.cons.length cc] 32) = W4 := ⟨_, rfl⟩
          have hk4 : Keeps (fun _ => False) wr W4 := by rw [← hW4]; exact (Keeps.refl _ _).alloc _
          have hbk : Blk W4 b 32 [.string d.name, .int .i64 d.params, .slice CA d.cons.length cc] := by rw [← hW4, ← hb0]; exact Blk.new wr _ [_, _, _]
          have k2 := hbk.cell (i := 2) rfl
          have h0 := hk4.cell e0 (fun h => h)
          have hz4 := hk4.size
          have hbl := hbk.lt
          have HPa := Lib.hid (params_vars (hS.same hk4) (by omega) HFl.out HPar.out HMx.out d.name)
          have hvl := varsOf_lt HSl.out d.name
          obtain ⟨vs, hvs⟩ : ∃ vs, varsOf datas fs d.name = vs := ⟨_, rfl⟩
          rw [hvs] at HPa hvl
          have HVl := Lib.hid hvl
          obtain ⟨T, hT⟩ : ∃ T, tasks datas fs (datas.drop (j + 1)) = T := ⟨_, rfl⟩
          have HT := Lib.hid hT
          have HR : Hid (RA = runT datas fs ((d.cons.drop 0).flatMap (tasksC vs) ++ T) s) := by
            rw [hR.out]
            unfold tasks
            rw [flatMap_drop _ hd, List.drop_zero, ← hvs, ← hT]
            rfl
          have HS := Lib.hid hS
          have HI := Lib.hid hI
          have HK := Lib.hid hk
          have HCs := Lib.hid hcons
          have HW4 := Lib.hid hW4
          have HB0 := Lib.hid hb0
          have HK4 := Lib.hid hk4
          have j1 : (j : Int) < (datas.length : Int) := by omega
          clear hS hI hk hcons hW4 hb0 hk4 hbk hvl hvs hT hR hd hdj
          go_wp2_with fail
          rw [HW4.out, HB0.out]
          with_reducible refine HPa.out.mono ?_
          rintro e w5 ⟨hb5, vv, bb, rfl, hvv⟩
          have hk5 : Keeps (fun _ => False) wr w5 := HK4.out.trans (Keeps.of_below (X := fun _ => False) hb5) (fun _ _ h => h)
          have HVn : Hid (∀ i, vv.ownBlock = some i → ¬ Two uv cv i) := fun i hi ht => by
            have := (hvv.lt i hi).1
            have := (HTwo.out i ht).2
            omega
          have HVv := Lib.hid hvv
          have HS5 := Lib.hid (HS.out.same hk5)
          have HC5 := Lib.hid (HCs.out.keeps hk5 (fun _ _ h => h))
          have l2 := (hb5.cell (block_lt_of_cell k2)).trans k2
          have HK5 := Lib.hid (HK.out.trans hk5 (fun _ _ h => h.elim))
          have hz5 := hb5.size
          clear hb5 hvv hk5 e0 e1 e2 h0 k2
          go_wp2_with fail
          obtain ⟨w6, rfl⟩ : ∃ w6, w6 = w5 := ⟨_, rfl⟩
          go_loopw [17, 110] (fun _ i wi => ∃ (k : Nat) (s : St), k ≤ d.cons.length ∧ i = .int .i64 k ∧ Keeps (Two uv cv) w6 wi ∧ Kinv s ∧ Ran s.2 ∧ s.1.length = 3 + m ∧ Sv wi B p [] datas fs s.1 s.2 (.slice none 0 0) (.slice (some ⟨gd, off, none⟩) datas.length dc) fv uv cv ∧ Hid (RA = runT datas fs ((d.cons.drop k).flatMap (tasksC vs) ++ T) s)) (fun _ i _ => d.cons.length - (intOf i).toNat)
          case atStart => exact ⟨0, s, Nat.zero_le _, rfl, Keeps.refl _ _, HI.out, hRn, by omega, HS5.out, HR⟩
          case round =>
            obtain ⟨k, s, hk, rfl, hki, hI, hRn, hsl, hS, hR⟩ := hrel
            have hkiz := hki.size
            have k0 : (0 : Int) ≤ (k : Int) := by omega
            by_cases hlk : k < d.cons.length
            · obtain ⟨c, hc⟩ : ∃ c, d.cons[k]? = some c := ⟨_, List.getElem?_eq_getElem hlk⟩
              obtain ⟨gc, offc, args, hadrc, hgc, a0, a1, hcn, hargs⟩ := ConSig.get (HC5.out.keeps hki (fun i hi h => by have := (HTwo.out i h).1; omega)) hlk
              obtain rfl := hadrc
              have hcj : d.cons[k] = c := by rw [List.getElem?_eq_getElem hlk] at hc; exact Option.some.inj hc
              rw [hcj] at a0 hargs
              obtain ⟨GA, gcap, rfl, hgl1, hgl2, _⟩ := hargs.form
              have hgmx : c.args.length ≤ 9223372036854775807 := by unfold maxLen at hgl2; omega
              have hgcz := block_lt_of_cell a0
              obtain ⟨b2, hb2⟩ : ∃ b2, wr.heap.size = b2 := ⟨_, rfl⟩
              obtain ⟨W7, hW7⟩ : ∃ W7, wr.alloc (.cells #[.string c.name, .slice GA c.args.length gcap] 80) = W7 := ⟨_, rfl⟩
              have hk7 : Keeps (fun _ => False) wr W7 := by rw [← hW7]; exact (Keeps.refl _ _).alloc _
              have hbk : Blk W7 b2 80 [.string c.name, .slice GA c.args.length gcap] := by rw [← hW7, ← hb2]; exact Blk.new wr _ [_, _]
              have k1 := hbk.cell (i := 1) rfl
              have hz7 := hk7.size
              have hbl7 := hbk.lt
              obtain ⟨T2, hT2⟩ : ∃ T2, (d.cons.drop (k + 1)).flatMap (tasksC vs) ++ T = T2 := ⟨_, rfl⟩
              have HT2 := Lib.hid hT2
              have HR7 : Hid (RA = runT datas fs ((tasksC vs c).drop 0 ++ T2) s) := by
                rw [hR.out, flatMap_drop _ hc, List.drop_zero, ← hT2, List.append_assoc]; rfl
              have HS7 := Lib.hid (hS.same hk7)
              have HI7 := Lib.hid hI
              have HK7 := Lib.hid (hki.trans hk7 (fun _ _ h => h.elim))
              have HA7 := Lib.hid (hargs.keeps hk7 (fun _ _ h => h))
              have HW7 := Lib.hid hW7
              have HB2' := Lib.hid hb2
              have k9 : (k : Int) < (d.cons.length : Int) := by omega
              clear hS hI hki hargs hW7 hb2 hk7 hbk hT2 hR hc hcj
              go_wp2_with fail
              rw [HW7.out]
              obtain ⟨w8, rfl⟩ : ∃ w8, w8 = W7 := ⟨_, rfl⟩
              clear a0 a1
              go_loopw [19, 20, 21, 117] (fun _ _ _ i wl => ∃ (q : Nat) (s : St), q ≤ c.args.length ∧ i = .int .i64 q ∧ Keeps (Two uv cv) w8 wl ∧ Kinv s ∧ Ran s.2 ∧ s.1.length = 3 + m ∧ Sv wl B p [] datas fs s.1 s.2 (.slice none 0 0) (.slice (some ⟨gd, off, none⟩) datas.length dc) fv uv cv ∧ Hid (RA = runT datas fs ((tasksC vs c).drop q ++ T2) s)) (fun _ _ _ i _ => c.args.length - (intOf i).toNat)
              case atStart => exact ⟨0, s, Nat.zero_le _, rfl, Keeps.refl _ _, HI7.out, hRn, by omega, HS7.out, HR7⟩
              case round =>
                obtain ⟨q, s, hq, rfl, hkl, hI, hRn, hsl, hS, hR⟩ := hrel
                have hklz := hkl.size
                have q0 : (0 : Int) ≤ (q : Int) := by omega
                by_cases hlq : q < c.args.length
                · obtain ⟨t, ht⟩ : ∃ t, c.args[q]? = some t := ⟨_, List.getElem?_eq_getElem hlq⟩
                  obtain ⟨gt, offt, tv, hadrt, hgt, t0, t1, t2, t3, hT⟩ := tyD.get (HA7.out.keeps hkl (fun i hi h => by have := (HTwo.out i h).1; omega)) hlq
                  obtain rfl := hadrt
                  have hcj : c.args[q] = t := by rw [List.getElem?_eq_getElem hlq] at ht; exact Option.some.inj ht
                  rw [hcj] at t0 t1 t2 hT
                  obtain ⟨XA, xc, rfl, _⟩ := hT.form
                  have hgtz := block_lt_of_cell t0
                  obtain ⟨b3, hb3⟩ : ∃ b3, wr.heap.size = b3 := ⟨_, rfl⟩
                  obtain ⟨W9, hW9⟩ : ∃ W9, wr.alloc (.cells #[.int .i64 t.kind, .string t.name, .int .i64 t.var, .slice XA t.args.length xc] 45) = W9 := ⟨_, rfl⟩
                  have hk9 : Keeps (fun _ => False) wr W9 := by rw [← hW9]; exact (Keeps.refl _ _).alloc _
                  have hbk : Blk W9 b3 45 [.int .i64 t.kind, .string t.name, .int .i64 t.var, .slice XA t.args.length xc] := by rw [← hW9, ← hb3]; exact Blk.new wr _ [_, _, _, _]
                  have y0 := hbk.cell (i := 0) rfl
                  have y1 := hbk.cell (i := 1) rfl
                  have y2 := hbk.cell (i := 2) rfl
                  have y3 := hbk.cell (i := 3) rfl
                  have hz9 := hk9.size
                  have hbl9 := hbk.lt
                  have HK9 := Lib.hid (show Keeps (Two uv cv) w8 W9 from hkl.trans hk9 (fun _ _ h => h.elim))
                  have HK39 := Lib.hid (show Keeps (Two uv cv) w3 W9 from (HK5.out.trans (HK7.out.trans HK9.out (fun _ _ h => h)) (fun _ _ h => h)))
                  have hT9 := hT.keeps hk9 (fun _ _ h => h)
                  have hck := kCheck1 t W9 (· < B) _ hT9 (fun b hb => by omega) (HEx.out _ HK39.out).2
                  unfold tyV at hck
                  have HCk := Lib.hid hck
                  have HT9 := Lib.hid hT9
                  have HS9 := Lib.hid (hS.same hk9)
                  have HI9 := Lib.hid hI
                  have HR9 : Hid (RA = runT datas fs ((vs, t) :: ((tasksC vs c).drop (q + 1) ++ T2)) s) := by
                    rw [hR.out, tasksC_drop ht]; rfl
                  have HBk9 := Lib.hid hbk
                  have HW9 := Lib.hid hW9
                  have HB3 := Lib.hid hb3
                  have q1 : (q : Int) < (c.args.length : Int) := by omega
                  clear hS hI hkl hT hT9 hck hW9 hb3 hk9 hbk hR ht hcj
                  go_wp2_with fail
                  rw [HW9.out, HB3.out]
                  with_reducible refine HCk.out.mono ?_
                  rintro e w10 ⟨rfl, hb10⟩
                  obtain ⟨ec, hec⟩ : ∃ ec, (chk t 4096 false 1).1 = ec := ⟨_, rfl⟩
                  rw [hec]
                  have hk10 : Keeps (fun _ => False) W9 w10 := Keeps.of_below hb10
                  have HK10 := Lib.hid (show Keeps (Two uv cv) w8 w10 from HK9.out.trans hk10 (fun _ _ h => h.elim))
                  have HK310 := Lib.hid (show Keeps (Two uv cv) w3 w10 from HK39.out.trans hk10 (fun _ _ h => h.elim))
                  have hbk10 := HBk9.out.later hb10
                  have x0 := hbk10.cell (i := 0) rfl
                  have x1 := hbk10.cell (i := 1) rfl
                  have x2 := hbk10.cell (i := 2) rfl
                  have x3 := hbk10.cell (i := 3) rfl
                  have hbl10 := hbk10.lt
                  have hz10 := hb10.size
                  have HT10 := Lib.hid (HT9.out.keeps hk10 (fun _ _ h => h))
                  have HS10 := Lib.hid (HS9.out.same hk10)
                  clear hb10 hk10 hbk10 t0 t1 t2 t3 y0 y1 y2 y3
                  by_cases hec0 : ec = 0
                  · subst hec0
                    obtain ⟨r, s', hr⟩ := want_def datas fs vs hec s
                    have hwn := want_any datas fs vs _ w10 B p (· < B) _ _ fv uv cv vv _ t 0 s r s' HS10.out (by omega) HI9.out (by rw [hsl]; exact HSl.out) (by omega) (by omega) (by omega)
                      (own_low (own_keeps (own_keeps (HVv.out) HK7.out (fun i hi h => HVn.out i hi h)) HK10.out (fun i hi h => HVn.out i hi h)) (by omega)) HVn.out (by rw [hsl]; exact HVl.out)
                      (fun i hi => ⟨by omega, fun h => by have := (HTwo.out i h).1; omega⟩) HT10.out hr
                    have hinv := wantP_inv (n := 3 + m) HSl.out (by omega) HVl.out _ t 0 s r s' HI9.out hsl (by omega) hr
                    have hrun := HR9.out.trans (runT_cons hec hr)
                    unfold tyV at hwn
                    rw [Int.ofNat_zero] at hwn
                    have HWn := Lib.hid hwn
                    have HInv := Lib.hid hinv
                    have HRun := Lib.hid hrun
                    have HRan := Lib.hid (Ran.want _ t 0 s r s' hRn hr)
                    clear hwn hinv hrun hr hec
                    go_wp2_with fail
                    with_reducible refine HWn.out.mono ?_
                    rintro e w11 ⟨rfl, hk11, hS11⟩
                    have HK11 := Lib.hid (HK10.out.trans hk11 (fun _ _ h => h))
                    have HK311 := Lib.hid (HK310.out.trans hk11 (fun _ _ h => h))
                    have HS11 := Lib.hid hS11
                    clear hk11 hS11
                    by_cases hr0 : r = 0
                    · subst hr0
                      have HRun2 := Lib.hid (HRun.out.trans (if_neg (fun h => h rfl)))
                      go_wp2_with fail
                      go_roundw
                      case rel => exact ⟨q + 1, s', by omega, by go_num, HK11.out, HInv.out.1, HRan.out, HInv.out.2, HS11.out, HRun2⟩
                      case measure => simp [intOf]; omega
                    · have hrb : (r != 0) = true := by rw [bne_iff_ne]; exact hr0
                      have HRun2 := Lib.hid (HRun.out.trans (if_pos hr0))
                      have HR0 := Lib.hid hr0
                      clear hr0
                      go_wp2_with fail
                      go_ret2
                      exact ⟨(HEx.out _ HK311.out).1, .inr ⟨fun s h => (by rw [HInf.out, HRun2.out] at h; cases h), _, HR0.out, rfl⟩⟩
                  · have hrb : (ec != 0) = true := by rw [bne_iff_ne]; exact hec0
                    have HRun2 := Lib.hid (HR9.out.trans (runT_bad (by rw [hec]; exact hec0)))
                    have HR0 := Lib.hid hec0
                    clear hec0 hec
                    go_wp2_with fail
                    go_ret2
                    exact ⟨(HEx.out _ HK310.out).1, .inr ⟨fun s h => (by rw [HInf.out, HRun2.out] at h; cases h), _, HR0.out, rfl⟩⟩
                · obtain rfl : q = c.args.length := by omega
                  have q1 : ¬ (c.args.length : Int) < (c.args.length : Int) := by omega
                  have HKl := Lib.hid hkl
                  have HS := Lib.hid hS
                  have HI := Lib.hid hI
                  have HR8 : Hid (RA = runT datas fs ((d.cons.drop (k + 1)).flatMap (tasksC vs) ++ T) s) := by
                    rw [hR.out, List.drop_eq_nil_of_le (by simp [tasksC]), List.nil_append, HT2.out]; rfl
                  clear hkl hS hI hR
                  go_wp2_with fail
                  go_roundw
                  case rel => exact ⟨k + 1, s, by omega, by go_num, HK7.out.trans HKl.out (fun _ _ h => h), HI.out, hRn, hsl, HS.out, HR8⟩
                  case measure => simp [intOf]; omega
            · obtain rfl : k = d.cons.length := by omega
              have k9 : ¬ (d.cons.length : Int) < (d.cons.length : Int) := by omega
              have HKi := Lib.hid hki
              have HS := Lib.hid hS
              have HI := Lib.hid hI
              have HR8 : Hid (RA = runT datas fs (tasks datas fs (datas.drop (j + 1))) s) := by
                rw [hR.out, List.drop_length, List.flatMap_nil, List.nil_append, HT.out]; rfl
              clear hki hS hI hR
              go_wp2_with fail
              go_roundw
              case rel => exact ⟨j + 1, s, by omega, by go_num, HK5.out.trans HKi.out (fun _ _ h => h), HI.out, hRn, hsl, HS.out, HR8⟩
              case measure => simp [intOf]; omega
        · obtain rfl : j = datas.length := by omega
          rw [List.drop_length] at hR
          obtain ⟨w4, rfl⟩ : ∃ w4, w4 = wr := ⟨_, rfl⟩
          have HOk := Lib.hid ((HInf.out s).2 hR.out)
          obtain ⟨C, hC⟩ : ∃ C, w4.heap.size = C := ⟨_, rfl⟩
          obtain ⟨W5, hW5⟩ : ∃ W5, w4.alloc (.cells #[] 29) = W5 := ⟨_, rfl⟩
          have hk5 : Keeps (fun _ => False) w4 W5 := by rw [← hW5]; exact (Keeps.refl _ _).alloc _
          have hown0 : W5.ownsRow C 29 2 (.slice (some ⟨C, 0, none⟩) 0 0) 0 [] := by
            refine ⟨rfl, .inr ⟨C, 0, #[], rfl, Nat.le_refl _, ?_, Nat.le_refl _, Nat.zero_le _, rfl, rfl⟩⟩
            rw [← hW5, ← hC]; exact heap_alloc_new w4 _
          obtain ⟨L, hL⟩ : ∃ L, kindsOf datas fs s = L := ⟨_, rfl⟩
          have hLl : L.length = datas.length := by rw [← hL]; exact kindsOf_length HFl.out
          have HL := Lib.hid hL
          have HLl := Lib.hid hLl
          have HS := Lib.hid hS
          have HK := Lib.hid hk
          have HI := Lib.hid hI
          have HRn := Lib.hid hRn
          have HSL := Lib.hid hsl
          have HC := Lib.hid hC
          have HW5 := Lib.hid hW5
          have HK5 := Lib.hid hk5
          have HO0 := Lib.hid hown0
          have hpC : p < C := by rw [← hC]; exact hS.blk.lt
          have hj1 : ¬ (datas.length : Int) < (datas.length : Int) := by omega
          clear hR hS hk hI hRn hsl hC hW5 hk5 hown0 hL hLl
          go_wp2_with fail
          rw [HW5.out, HC.out]
          go_loopw [22, 23, 24, 25, 139] (fun ov _ _ _ i wl => ∃ (j : Nat) (cs : List Value), j ≤ datas.length ∧ i = .int .i64 j ∧ Keeps (fun _ => False) w4 wl ∧ wl.ownsRow C 29 2 ov j cs ∧ RpAll wl (fun b => b < wl.heap.size ∧ ¬ ov.ownBlock = some b) ((L.take j).map KindSig.d) cs) (fun _ _ _ _ i _ => datas.length - (intOf i).toNat)
          case atStart => exact ⟨0, [], Nat.zero_le _, rfl, HK5.out, HO0.out, by rw [List.take_zero]; exact rpAll_nil.2 rfl⟩
          case round =>
            obtain ⟨j, cs, hj, rfl, hk, hown, hrp⟩ := hrel
            have hkz := hk.size
            have hCw : C ≤ wr.heap.size := by have := HC.out; omega
            have j0 : (0 : Int) ≤ (j : Int) := by omega
            obtain ⟨OA, oc, rfl, _⟩ := own_shape hown
            by_cases hlt : j < datas.length
            · obtain ⟨d, hd⟩ : ∃ d, datas[j]? = some d := ⟨_, List.getElem?_eq_getElem hlt⟩
              have hlf : j < fs.length := by rw [HFl.out]; exact hlt
              obtain ⟨f, hf⟩ : ∃ f, fs[j]? = some f := ⟨_, List.getElem?_eq_getElem hlf⟩
              have hfit := HSl.out.2 j d f hd hf
              obtain ⟨gd, off, cons, hadr, hgd, e0, e1, e2, hns, hpw, hcons⟩ := DataSig.get (HS.out.same hk).dt hlt
              obtain rfl := hadr
              have hdj : datas[j] = d := by rw [List.getElem?_eq_getElem hlt] at hd; exact Option.some.inj hd
              rw [hdj] at e0 e1 hns hpw hcons
              obtain ⟨CA, cc, rfl, _⟩ := hcons.form
              obtain ⟨dn, hdn⟩ : ∃ dn : Nat, d.params = (dn : Int) := ⟨d.params.toNat, by omega⟩
              have hdt : d.params.toNat = dn := by omega
              have HLs := Lib.hid (kindsOf_take_succ (s := s) hd hf)
              rw [HL.out, hdt] at HLs
              rw [hdt] at hfit
              rw [hdn] at e1 hfit
              have hgz := block_lt_of_cell e0
              obtain ⟨b, hb0⟩ : ∃ b, wr.heap.size = b := ⟨_, rfl⟩
              obtain ⟨W6, hW6⟩ : ∃ W6, wr.alloc (.cells #[.string d.name, .int .i64 (dn : Int), .slice CA d.cons.length cc] 32) = W6 := ⟨_, rfl⟩
              obtain ⟨W7, hW7⟩ : ∃ W7, W6.alloc (.cells #[.string d.name, .slice none 0 0] 29) = W7 := ⟨_, rfl⟩
              have hz6 : W6.heap.size = b + 1 := by rw [← hW6, ← hb0]; simp
              have hk6 : Keeps (fun _ => False) wr W6 := by rw [← hW6]; exact (Keeps.refl _ _).alloc _
              have hk7 : Keeps (fun _ => False) wr W7 := by rw [← hW7]; exact hk6.alloc _
              have hb25 : Blk W7 (b + 1) 29 [.string d.name, .slice none 0 0] := by rw [← hW7, ← hz6]; exact Blk.new W6 _ [_, _]
              have hbk : Blk W6 b 32 [.string d.name, .int .i64 (dn : Int), .slice CA d.cons.length cc] := by rw [← hW6, ← hb0]; exact Blk.new wr _ [_, _, _]
              have k0 := hbk.cell (i := 0) rfl
              have hbk7 : Blk W7 b 32 [.string d.name, .int .i64 (dn : Int), .slice CA d.cons.length cc] := by rw [← hW7]; exact hbk.alloc _
              have k1 := hbk7.cell (i := 1) rfl
              have HF1 := Lib.hid hf
              have HFit := Lib.hid hfit
              have HNs := Lib.hid hns
              have HKo := Lib.hid hk
              have HOw := Lib.hid hown
              have HRp := Lib.hid hrp
              have HK7 := Lib.hid hk7
              have HB25 := Lib.hid hb25
              have HB0 := Lib.hid hb0
              have HW6 := Lib.hid hW6
              have HW7 := Lib.hid hW7
              have HZ6 := Lib.hid hz6
              have hd0 : (0 : Int) ≤ (dn : Int) := by omega
              have hd16 : dn ≤ 16 := by omega
              have hf1 : (f : Int) ≤ 1000000 := by omega
              have hf0 : (0 : Int) ≤ (f : Int) := by omega
              have j1 : (j : Int) < (datas.length : Int) := by omega
              have j2 : (j : Int) < (fs.length : Int) := by omega
              clear hd hf hfit hcons hdj hpw hdn hdt hns hk hown hrp hk6 hk7 hb25 hb0 hW6 hW7 hz6 hbk hbk7
              go_wp2_with fail
              simp only [HW6.out, HB0.out, HW7.out]
              clear e0 e1 e2
              obtain ⟨wo, rfl⟩ : ∃ wo, wo = wr := ⟨_, rfl⟩
              go_wp2_with fail
              go_loopw [26, 149] (fun _ i wl => ∃ (q : Nat) (pv : Value), q ≤ dn ∧ i = .int .i64 q ∧ Keeps (fun _ => False) wo wl ∧ Blk wl (b + 1) 29 [.string d.name, pv] ∧ wl.ownsRow (b + 2) 3 1 pv q (kintz (kindRow s f q))) (fun _ i _ => dn - (intOf i).toNat)
              case atStart => exact ⟨0, _, Nat.zero_le _, rfl, HK7.out, HB25.out, World.ownsRow_nil _ _ _ _⟩
              case round =>
                obtain ⟨q, pv, hq, rfl, hkq, hbq, hoq⟩ := hrel
                have hkqz := hkq.size
                have hbo := HB0.out
                have q0 : (0 : Int) ≤ (q : Int) := by omega
                have hkw := HKo.out.trans hkq (fun _ _ h => h)
                have hS := HS.out.same hkw
                have hb25l := hbq.lt
                by_cases hlq : q < dn
                · have hfq : f + q < s.1.length := by rw [HSL.out]; have := HFit.out.2.2; omega
                  obtain ⟨rn, hrn⟩ := HI.out.uf.rt hfq
                  have hrl := HI.out.uf.rt_lt hfq
                  obtain ⟨r, hr⟩ : ∃ r, rt s.1 (f + q) = r := ⟨_, rfl⟩
                  rw [hr] at hrn hrl
                  have hrk : r < s.2.length := by rw [HI.out.len]; exact hrl
                  obtain ⟨kr, hkr⟩ : ∃ kr, s.2[r]? = some kr := ⟨_, List.getElem?_eq_getElem hrk⟩
                  have hkO : kOf s.2 r = kr := by unfold kOf; rw [List.getD_eq_getElem?_getD, hkr]; rfl
                  have hkb := HRn.out.kOf r
                  rw [hkO] at hkb
                  obtain ⟨gf, cf, hfv, hfc, _, _, _⟩ := own_cell hS.fo (ints_get HF1.out) (by simp)
                  obtain ⟨gc, ccp, hcv, hcc, _, _, _⟩ := own_cell hS.co (kintz_get hkr) (by simp)
                  obtain rfl := hfv
                  obtain rfl := hcv
                  have c2 := hS.blk.cell (i := 2) rfl
                  have c4 := hS.blk.cell (i := 4) rfl
                  have c25 := hbq.cell (i := 1) rfl
                  have f25 := hbq.free 1
                  have hlo : ∀ i, pv.ownBlock = some i → b + 2 ≤ i := fun i h => (hoq.lt i h).1
                  have hnP : ¬ pv.ownBlock = some (b + 1) := fun h => by have := hlo _ h; omega
                  have hwoz := HKo.out.size
                  have hCo := HC.out
                  have hpl := block_lt_of_cell c2
                  have hn2 : ¬ pv.ownBlock = some p := fun h => by have := hlo _ h; omega
                  have hnf : ¬ pv.ownBlock = some gf := fun h => by have := hlo _ h; have := (HS.out.fo.lt gf rfl).2; omega
                  have hnc : ¬ pv.ownBlock = some gc := fun h => by have := hlo _ h; have := (HS.out.co.lt gc rfl).2; omega
                  have hQ : Hid (∀ X, Keeps (fun i => pv.ownBlock = some i) wr X → (X.cell? ⟨b + 1, 1, none⟩ = some pv ∧ X.cell? ⟨p, 4, none⟩ = some (.slice (some ⟨gc, 0, none⟩) s.2.length ccp) ∧ X.cell? ⟨p, 2, none⟩ = some (.slice (some ⟨gf, 0, none⟩) fs.length cf) ∧ X.cell? ⟨gf, j, none⟩ = some (.int .i64 (f : Int)) ∧ X.cell? ⟨gc, r, none⟩ = some (.int .i64 kr))) := fun X hk => ⟨hk.cell c25 hnP, hk.cell c4 hn2, hk.cell c2 hn2, hk.cell hfc hnf, hk.cell hcc hnc⟩
                  have HRo : Hid (∀ X, Keeps (fun i => pv.ownBlock = some i) wr X → Calls Tryd.prog 45 #[.pointer (some ⟨p, 0, none⟩), .int .i64 (IntKind.i64.wrap ((f : Int) + (q : Int)))] X fun e w' => e = .returned (.int .i64 (r : Int)) ∧ X = w') := fun X hk => by
                    rw [show IntKind.i64.wrap ((f : Int) + (q : Int)) = ((f + q : Nat) : Int) by rw [IntKind.wrap_i64]; omega]
                    exact root_any (HS.out.same (hkw.trans hk (fun i hi h => by have := hlo _ h; omega))) rn (f + q) r hrn
                  obtain ⟨PX, hPX⟩ : ∃ l, kintz (kindRow s f q) = l := ⟨_, rfl⟩
                  have HPo := Lib.hid hoq
                  rw [hPX] at HPo
                  have HRow : Hid (kintz (kindRow s f (q + 1)) = PX ++ [.int .i64 (if (0 : Int) < kr then kr else 0)]) := by
                    show _ = _
                    rw [kindRow_succ, hr, hkO, ← hPX, show max 0 kr = if (0 : Int) < kr then kr else 0 by split <;> omega]; simp [kintz]
                  have HMq := Lib.hid (show q + 1 ≤ maxLen by unfold maxLen; omega)
                  have HBq := Lib.hid (show (q + 1) * 8 ≤ 140737488355328 by omega)
                  have HBZq := Lib.hid (show b + 2 ≤ wr.heap.size by omega)
                  have HBlk := Lib.hid hbq
                  have HKq := Lib.hid hkq
                  have q1 : (q : Int) < (dn : Int) := by omega
                  have q9 : (dn : Int) ≤ 16 := by omega
                  have r0 : (0 : Int) ≤ (r : Int) := by omega
                  have r1 : (r : Int) < (s.2.length : Int) := by omega
                  have hHl := Lib.hid hlo
                  clear hkq hbq hoq hkw hS hfq hrn hrl hr hrk hkr hkO hPX hlo
                  go_wp2_with fail
                  refine wp_region_noPanic ?_
                  refine wp_region_till [23] (fun X => X.cell? ⟨b + 1, 1, none⟩ = some pv ∧ X.cell? ⟨p, 4, none⟩ = some (.slice (some ⟨gc, 0, none⟩) s.2.length ccp) ∧ X.cell? ⟨p, 2, none⟩ = some (.slice (some ⟨gf, 0, none⟩) fs.length cf) ∧ X.cell? ⟨gf, j, none⟩ = some (.int .i64 (f : Int)) ∧ X.cell? ⟨gc, r, none⟩ = some (.int .i64 kr)) (by kernel_rfl) ?_ (fun hE => ?_)
                  · exact hQ.out _ (by repeat (first | (with_reducible assumption) | (with_reducible exact Keeps.refl _ _) | (with_reducible refine Keeps.drewN ?_ _) | (with_reducible refine Keeps.drew ?_) | with_reducible refine Keeps.setCell ?_ (by first | (intro _; exact rfl) | (intro _; exact Or.inl rfl) | (intro _; exact Or.inr rfl) | (simp; done) | (simp; omega)) _ | (with_reducible refine Keeps.alloc ?_ _)))
                  have hS := hE (by kernel_rfl)
                  refine wpAnyT_pure (i := 0) (oi := { dst := some 152, op := Op.fieldAddr 29 (Operand.tmp 25) 1, type := 0, pos := "kinds.go:191", after := #[], guard := none }) (v := ?v48_0) rfl (by kernel_rfl) (fun _ _ _ h => h) (Or.inl ⟨by rfl, ?y48_0⟩) (fun _ => hS) ?_
                  case y48_0 => (intro w hSw; go_simp; try with_reducible rfl)
                  try simp only [Act.put, List.setIfInBounds_toArray, List.set_cons_zero, List.set_cons_succ]
                  refine wpAnyT_take (i := 1) (oi := { dst := some 153, op := Op.load 27 (Operand.tmp 152), type := 27, pos := "kinds.go:191", after := #[{ on := 0, ground := Ground.data }], guard := none }) (v := ?v48_1) rfl (by kernel_rfl) (fun _ _ _ h => h) (Or.inl ⟨by rfl, ?y48_1⟩) hS ?_
                  case y48_1 => (intro w hSw; (try dsimp only at hSw); go_simp; try with_reducible rfl)
                  try simp only [Act.put, List.setIfInBounds_toArray, List.set_cons_zero, List.set_cons_succ]
                  refine wpAnyT_pure (i := 2) (oi := { dst := some 154, op := Op.move (Operand.tmp 7), type := 73, pos := "kinds.go:191", after := #[], guard := none }) (v := ?v48_2) rfl (by kernel_rfl) (fun _ _ _ h => h) (Or.inl ⟨by rfl, ?y48_2⟩) (fun _ => hS) ?_
                  case y48_2 => (intro w hSw; go_simp; try with_reducible rfl)
                  try simp only [Act.put, List.setIfInBounds_toArray, List.set_cons_zero, List.set_cons_succ]
                  refine wpAnyT_pure (i := 3) (oi := { dst := some 155, op := Op.nilCheck (Operand.tmp 154), type := 0, pos := "kinds.go:191", after := #[{ on := 2, ground := Ground.data }], guard := none }) (v := ?v48_3) rfl (by kernel_rfl) (fun _ _ _ h => h) (Or.inl ⟨by rfl, ?y48_3⟩) (fun _ => hS) ?_
                  case y48_3 => (intro w hSw; go_simp; try with_reducible rfl)
                  try simp only [Act.put, List.setIfInBounds_toArray, List.set_cons_zero, List.set_cons_succ]
                  refine wpAnyT_pure (i := 4) (oi := { dst := some 156, op := Op.fieldAddr 76 (Operand.tmp 155) 4, type := 0, pos := "kinds.go:191", after := #[{ on := 3, ground := Ground.data }], guard := none }) (v := ?v48_4) rfl (by kernel_rfl) (fun _ _ _ h => h) (Or.inl ⟨by rfl, ?y48_4⟩) (fun _ => hS) ?_
                  case y48_4 => (intro w hSw; go_simp; try with_reducible rfl)
                  try simp only [Act.put, List.setIfInBounds_toArray, List.set_cons_zero, List.set_cons_succ]
                  refine wpAnyT_take (i := 5) (oi := { dst := some 157, op := Op.load 27 (Operand.tmp 156), type := 27, pos := "kinds.go:191", after := #[{ on := 4, ground := Ground.data }], guard := none }) (v := ?v48_5) rfl (by kernel_rfl) (fun _ _ _ h => h) (Or.inl ⟨by rfl, ?y48_5⟩) hS ?_
                  case y48_5 => (intro w hSw; (try dsimp only at hSw); go_simp; try with_reducible rfl)
                  try simp only [Act.put, List.setIfInBounds_toArray, List.set_cons_zero, List.set_cons_succ]
                  refine wpAnyT_pure (i := 6) (oi := { dst := some 158, op := Op.move (Operand.tmp 7), type := 73, pos := "kinds.go:191", after := #[], guard := none }) (v := ?v48_6) rfl (by kernel_rfl) (fun _ _ _ h => h) (Or.inl ⟨by rfl, ?y48_6⟩) (fun _ => hS) ?_
                  case y48_6 => (intro w hSw; go_simp; try with_reducible rfl)
                  try simp only [Act.put, List.setIfInBounds_toArray, List.set_cons_zero, List.set_cons_succ]
                  refine wpAnyT_pure (i := 7) (oi := { dst := some 159, op := Op.move (Operand.tmp 7), type := 73, pos := "kinds.go:191", after := #[], guard := none }) (v := ?v48_7) rfl (by kernel_rfl) (fun _ _ _ h => h) (Or.inl ⟨by rfl, ?y48_7⟩) (fun _ => hS) ?_
                  case y48_7 => (intro w hSw; go_simp; try with_reducible rfl)
                  try simp only [Act.put, List.setIfInBounds_toArray, List.set_cons_zero, List.set_cons_succ]
                  refine wpAnyT_pure (i := 8) (oi := { dst := some 160, op := Op.nilCheck (Operand.tmp 159), type := 0, pos := "kinds.go:191", after := #[{ on := 7, ground := Ground.data }], guard := none }) (v := ?v48_8) rfl (by kernel_rfl) (fun _ _ _ h => h) (Or.inl ⟨by rfl, ?y48_8⟩) (fun _ => hS) ?_
                  case y48_8 => (intro w hSw; go_simp; try with_reducible rfl)
                  try simp only [Act.put, List.setIfInBounds_toArray, List.set_cons_zero, List.set_cons_succ]
                  refine wpAnyT_pure (i := 9) (oi := { dst := some 161, op := Op.fieldAddr 76 (Operand.tmp 160) 2, type := 0, pos := "kinds.go:191", after := #[{ on := 8, ground := Ground.data }], guard := none }) (v := ?v48_9) rfl (by kernel_rfl) (fun _ _ _ h => h) (Or.inl ⟨by rfl, ?y48_9⟩) (fun _ => hS) ?_
                  case y48_9 => (intro w hSw; go_simp; try with_reducible rfl)
                  try simp only [Act.put, List.setIfInBounds_toArray, List.set_cons_zero, List.set_cons_succ]
                  refine wpAnyT_take (i := 10) (oi := { dst := some 162, op := Op.load 27 (Operand.tmp 161), type := 27, pos := "kinds.go:191", after := #[{ on := 9, ground := Ground.data }], guard := none }) (v := ?v48_10) rfl (by kernel_rfl) (fun _ _ _ h => h) (Or.inl ⟨by rfl, ?y48_10⟩) hS ?_
                  case y48_10 => (intro w hSw; (try dsimp only at hSw); go_simp; try with_reducible rfl)
                  try simp only [Act.put, List.setIfInBounds_toArray, List.set_cons_zero, List.set_cons_succ]
                  refine wpAnyT_pure (i := 11) (oi := { dst := some 163, op := Op.move (Operand.tmp 23), type := 3, pos := "kinds.go:191", after := #[], guard := none }) (v := ?v48_11) rfl (by kernel_rfl) (fun _ _ _ h => h) (Or.inl ⟨by rfl, ?y48_11⟩) (fun _ => hS) ?_
                  case y48_11 => (intro w hSw; go_simp; try with_reducible rfl)
                  try simp only [Act.put, List.setIfInBounds_toArray, List.set_cons_zero, List.set_cons_succ]
                  refine wpAnyT_pure (i := 12) (oi := { dst := some 164, op := Op.indexAddr 27 (Operand.tmp 162) (Operand.tmp 163), type := 0, pos := "kinds.go:191", after := #[{ on := 10, ground := Ground.data }, { on := 11, ground := Ground.data }], guard := none }) (v := ?v48_12) rfl (by kernel_rfl) (fun _ _ _ h => h) (Or.inl ⟨by rfl, ?y48_12⟩) (fun _ => hS) ?_
                  case y48_12 => (intro w hSw; go_simp; try with_reducible rfl)
                  try simp only [Act.put, List.setIfInBounds_toArray, List.set_cons_zero, List.set_cons_succ]
                  refine wpAnyT_take (i := 13) (oi := { dst := some 165, op := Op.load 3 (Operand.tmp 164), type := 3, pos := "kinds.go:191", after := #[{ on := 12, ground := Ground.data }], guard := none }) (v := ?v48_13) rfl (by kernel_rfl) (fun _ _ _ h => h) (Or.inl ⟨by rfl, ?y48_13⟩) hS ?_
                  case y48_13 => (intro w hSw; (try dsimp only at hSw); go_simp; try with_reducible rfl)
                  try simp only [Act.put, List.setIfInBounds_toArray, List.set_cons_zero, List.set_cons_succ]
                  refine wpAnyT_pure (i := 14) (oi := { dst := some 166, op := Op.move (Operand.tmp 26), type := 3, pos := "kinds.go:191", after := #[], guard := none }) (v := ?v48_14) rfl (by kernel_rfl) (fun _ _ _ h => h) (Or.inl ⟨by rfl, ?y48_14⟩) (fun _ => hS) ?_
                  case y48_14 => (intro w hSw; go_simp; try with_reducible rfl)
                  try simp only [Act.put, List.setIfInBounds_toArray, List.set_cons_zero, List.set_cons_succ]
                  refine wpAnyT_pure (i := 15) (oi := { dst := some 167, op := Op.binOp BinOp.add 3 (Operand.tmp 165) (Operand.tmp 166) 3, type := 3, pos := "kinds.go:191", after := #[{ on := 13, ground := Ground.data }, { on := 14, ground := Ground.data }], guard := none }) (v := ?v48_15) rfl (by kernel_rfl) (fun _ _ _ h => h) (Or.inl ⟨by rfl, ?y48_15⟩) (fun _ => hS) ?_
                  case y48_15 => (intro w hSw; go_simp; try with_reducible rfl)
                  try simp only [Act.put, List.setIfInBounds_toArray, List.set_cons_zero, List.set_cons_succ]
                  refine wpAnyT_ready (rs := [16]) (by kernel_rfl) rfl ?_
                  refine AllT.cons (o := { dst := some 168, op := Op.call { callee := Callee.value (Operand.func 45), args := #[Operand.tmp 158, Operand.tmp 167], argTypes := #[73, 3] }, type := 3, pos := "kinds.go:191", after := #[{ on := 6, ground := Ground.data }, { on := 15, ground := Ground.data }], guard := none }) rfl (fun K hK => ?_) ?_
                  · (go_simp; go_at_call 45; with_reducible refine (HRo.out _ (by repeat (first | (with_reducible assumption) | (with_reducible exact Keeps.refl _ _) | (with_reducible refine Keeps.drewN ?_ _) | (with_reducible refine Keeps.drew ?_) | with_reducible refine Keeps.setCell ?_ (by first | (intro _; exact rfl) | (intro _; exact Or.inl rfl) | (intro _; exact Or.inr rfl) | (simp; done) | (simp; omega)) _ | (with_reducible refine Keeps.alloc ?_ _)))).mono ?_; rintro e wq ⟨rfl, rfl⟩; go_wp2_with fail)
                    refine hK.out _ _ (fun _ => ?_) (fun hE => ?_)
                    · exact hQ.out _ (by repeat (first | (with_reducible assumption) | (with_reducible exact Keeps.refl _ _) | (with_reducible refine Keeps.drewN ?_ _) | (with_reducible refine Keeps.drew ?_) | with_reducible refine Keeps.setCell ?_ (by first | (intro _; exact rfl) | (intro _; exact Or.inl rfl) | (intro _; exact Or.inr rfl) | (simp; done) | (simp; omega)) _ | (with_reducible refine Keeps.alloc ?_ _)))
                    have hS := hE (by kernel_rfl)
                    clear hK K hE
                    try simp only [Act.put, List.setIfInBounds_toArray, List.set_cons_zero, List.set_cons_succ]
                    refine wpAnyT_pure (i := 17) (oi := { dst := some 169, op := Op.indexAddr 27 (Operand.tmp 157) (Operand.tmp 168), type := 0, pos := "kinds.go:191", after := #[{ on := 5, ground := Ground.data }, { on := 16, ground := Ground.data }], guard := none }) (v := ?v48_17) rfl (by kernel_rfl) (fun _ _ _ h => h) (Or.inl ⟨by rfl, ?y48_17⟩) (fun _ => hS) ?_
                    case y48_17 => (intro w hSw; go_simp; try with_reducible rfl)
                    try simp only [Act.put, List.setIfInBounds_toArray, List.set_cons_zero, List.set_cons_succ]
                    refine wpAnyT_take (i := 18) (oi := { dst := some 170, op := Op.load 3 (Operand.tmp 169), type := 3, pos := "kinds.go:191", after := #[{ on := 17, ground := Ground.data }], guard := none }) (v := ?v48_18) rfl (by kernel_rfl) (fun _ _ _ h => h) (Or.inl ⟨by rfl, ?y48_18⟩) hS ?_
                    case y48_18 => (intro w hSw; (try dsimp only at hSw); go_simp; try with_reducible rfl)
                    try simp only [Act.put, List.setIfInBounds_toArray, List.set_cons_zero, List.set_cons_succ]
                    refine wpAnyT_pure (i := 19) (oi := { dst := some 171, op := Op.call { callee := Callee.builtin Builtin.max, args := #[Operand.const (Value.int IntKind.i64 0), Operand.tmp 170], argTypes := #[3, 3] }, type := 3, pos := "kinds.go:191", after := #[{ on := 18, ground := Ground.data }], guard := none }) (v := ?v48_19) rfl (by kernel_rfl) (fun _ _ _ h => h) (Or.inl ⟨by rfl, ?y48_19⟩) (fun _ => hS) ?_
                    case y48_19 => (intro w hSw; go_simp; try with_reducible rfl)
                    try simp only [Act.put, List.setIfInBounds_toArray, List.set_cons_zero, List.set_cons_succ]
                    refine wpAnyT_ready (rs := [20]) (by kernel_rfl) rfl ?_
                    refine AllT.cons (o := { dst := some 172, op := Op.buildSlice 27 1 #[(0, Operand.tmp 171)], type := 27, pos := "kinds.go:191", after := #[{ on := 19, ground := Ground.data }], guard := none }) rfl (fun K hK => ?_) ?_
                    · go_simp
                      refine hK.out _ _ (fun _ => ?_) (fun hE => ?_)
                      · exact hQ.out _ (by repeat (first | (with_reducible assumption) | (with_reducible exact Keeps.refl _ _) | (with_reducible refine Keeps.drewN ?_ _) | (with_reducible refine Keeps.drew ?_) | with_reducible refine Keeps.setCell ?_ (by first | (intro _; exact rfl) | (intro _; exact Or.inl rfl) | (intro _; exact Or.inr rfl) | (simp; done) | (simp; omega)) _ | (with_reducible refine Keeps.alloc ?_ _)))
                      have hS := hE (by kernel_rfl)
                      clear hK K hE
                      try simp only [Act.put, List.setIfInBounds_toArray, List.set_cons_zero, List.set_cons_succ]
                      refine wpAnyT_ready (rs := [21]) (by kernel_rfl) rfl ?_
                      refine AllT.cons (o := { dst := some 173, op := Op.call { callee := Callee.builtin Builtin.append, args := #[Operand.tmp 153, Operand.tmp 172], argTypes := #[27, 27] }, type := 27, pos := "kinds.go:191", after := #[{ on := 1, ground := Ground.data }, { on := 20, ground := Ground.data }, { on := 16, ground := Ground.chain }], guard := none }) rfl (fun K hK => ?_) ?_
                      · (refine step_append_kept (W0 := wr) rfl (.tmp 153) (.tmp 172) 27 rfl (b + 2) 3 i0 _ 1 8 Tryd.underlying27 hi0 hz0 hz1 hz2 rfl (by decide) pv q PX rfl HPo.out (by repeat (first | with_reducible exact Keeps.refl _ _ | with_reducible refine Keeps.drew ?_ | with_reducible refine Keeps.alloc ?_ _)) _ _ #[.int .i64 (if (0 : Int) < kr then kr else 0)] rfl rfl (by first | exact heap_new_at (by simp) | exact heap_up (heap_new_at (by simp)) _) (by simp [Value.oneCell']) HMq.out HBq.out HBZq.out ?_; intro gg1 cap1 w6 hown1 hk1 _ hat1; have q25 := hk1.cell c25 hnP; have qf25 := hk1.frozen f25 hb25l hnP; have qz := Nat.lt_of_lt_of_le hb25l hk1.size)
                        refine hK.out _ _ (fun _ => ?_) (fun hE => ?_)
                        · exact hQ.out _ (by repeat (first | (with_reducible assumption) | (with_reducible exact Keeps.refl _ _) | (with_reducible refine Keeps.drewN ?_ _) | (with_reducible refine Keeps.drew ?_) | with_reducible refine Keeps.setCell ?_ (by first | (intro _; exact rfl) | (intro _; exact Or.inl rfl) | (intro _; exact Or.inr rfl) | (simp; done) | (simp; omega)) _ | (with_reducible refine Keeps.alloc ?_ _)))
                        have hS := hE (by kernel_rfl)
                        clear hK K hE
                        try simp only [Act.put, List.setIfInBounds_toArray, List.set_cons_zero, List.set_cons_succ]
                        refine wpAnyT_pure (i := 22) (oi := { dst := some 174, op := Op.fieldAddr 29 (Operand.tmp 25) 1, type := 0, pos := "kinds.go:191", after := #[{ on := 0, ground := Ground.phase }, { on := 1, ground := Ground.phase }, { on := 2, ground := Ground.phase }, { on := 3, ground := Ground.phase }, { on := 4, ground := Ground.phase }, { on := 5, ground := Ground.phase }, { on := 6, ground := Ground.phase }, { on := 7, ground := Ground.phase }, { on := 8, ground := Ground.phase }, { on := 9, ground := Ground.phase }, { on := 10, ground := Ground.phase }, { on := 11, ground := Ground.phase }, { on := 12, ground := Ground.phase }, { on := 13, ground := Ground.phase }, { on := 14, ground := Ground.phase }, { on := 15, ground := Ground.phase }, { on := 16, ground := Ground.phase }, { on := 17, ground := Ground.phase }, { on := 18, ground := Ground.phase }, { on := 19, ground := Ground.phase }, { on := 20, ground := Ground.phase }, { on := 21, ground := Ground.phase }], guard := none }) (v := ?v48_22) rfl (by kernel_rfl) (fun _ _ _ h => h) (Or.inl ⟨by rfl, ?y48_22⟩) (fun _ => hS) ?_
                        case y48_22 => (intro w hSw; go_simp; try with_reducible rfl)
                        try simp only [Act.put, List.setIfInBounds_toArray, List.set_cons_zero, List.set_cons_succ]
                        refine wpAnyT_ready (rs := [23]) (by kernel_rfl) rfl ?_
                        refine AllT.cons (o := { dst := none, op := Op.store 27 (Operand.tmp 174) (Operand.tmp 173), type := 0, pos := "kinds.go:191", after := #[{ on := 22, ground := Ground.data }, { on := 21, ground := Ground.data }, { on := 21, ground := Ground.chain }, { on := 0, ground := Ground.phase }, { on := 1, ground := Ground.phase }, { on := 2, ground := Ground.phase }, { on := 3, ground := Ground.phase }, { on := 4, ground := Ground.phase }, { on := 5, ground := Ground.phase }, { on := 6, ground := Ground.phase }, { on := 7, ground := Ground.phase }, { on := 8, ground := Ground.phase }, { on := 9, ground := Ground.phase }, { on := 10, ground := Ground.phase }, { on := 11, ground := Ground.phase }, { on := 12, ground := Ground.phase }, { on := 13, ground := Ground.phase }, { on := 14, ground := Ground.phase }, { on := 15, ground := Ground.phase }, { on := 16, ground := Ground.phase }, { on := 17, ground := Ground.phase }, { on := 18, ground := Ground.phase }, { on := 19, ground := Ground.phase }, { on := 20, ground := Ground.phase }, { on := 21, ground := Ground.phase }], guard := none }) rfl (fun K hK => ?_) ?_
                        · go_simp
                          refine hK.out _ _ (fun he => Bool.noConfusion (show false = true from he)) (fun hE => ?_)
                          clear hK K hE
                          try simp only [Act.put, List.setIfInBounds_toArray, List.set_cons_zero, List.set_cons_succ]
                          refine wpAnyT_done (by kernel_rfl) ?_ _
                          refine NoPanic.normal ?_
                          obtain ⟨W8, hW8⟩ : ∃ W8, w6.setCell ⟨b + 1, 1, none⟩ (.slice (some ⟨gg1, 0, none⟩) (q + 1) cap1) = W8 := ⟨_, rfl⟩
                          have kp : Keeps (· = b + 1) w6 W8 := by rw [← hW8]; exact (Keeps.refl (· = b + 1) w6).setCell (p := ⟨b + 1, 1, none⟩) (fun _ => rfl) _
                          have hgo : b + 2 ≤ gg1 := (hown1.lt gg1 rfl).1
                          have HBk8 := Lib.hid (show Blk W8 (b + 1) 29 [.string d.name, .slice (some ⟨gg1, 0, none⟩) (q + 1) cap1] by rw [← hW8]; exact (HBlk.out.keeps hk1 hnP).set_ 1 _)
                          have HO8 : Hid (W8.ownsRow (b + 2) 3 1 (.slice (some ⟨gg1, 0, none⟩) (q + 1) cap1) (q + 1) (kintz (kindRow s f (q + 1)))) := by
                            have h := own_keeps hown1 kp (fun i hi e => by have e2 : gg1 = i := by simpa [Value.ownBlock] using hi
                                                                           omega)
                            rw [HRow.out]
                            exact h
                          have HK8 := Lib.hid (show Keeps (fun _ => False) wo W8 from HKq.out.trans ((hk1.mono (Y := fun i => pv.ownBlock = some i ∨ i = b + 1) (fun i _ h => .inl h)).trans kp (fun i hi e => .inr e)) (fun i hi h => Or.elim h (fun h => by have := hHl.out i h; omega) (fun h => by omega)))
                          rw [hW8]
                          clear hW8 kp hown1 hk1 hat1 q25 qf25 qz hgo
                          go_wp2_with fail
                          go_roundw
                          case rel => exact ⟨q + 1, _, by omega, by go_num, HK8.out, HBk8.out, HO8.out⟩
                          case measure => simp [intOf]; omega
                        exact AllT.nil
                      exact AllT.nil
                    exact AllT.nil
                  exact AllT.nil
                · obtain rfl : q = dn := by omega
                  have q1 : ¬ (q : Int) < (q : Int) := by omega
                  obtain ⟨PA, pc, rfl, _⟩ := own_shape hoq
                  have c0 := hbq.cell (i := 0) rfl
                  have c1 := hbq.cell (i := 1) rfl
                  have hCo := HC.out
                  have hown := own_keeps HOw.out hkq (fun _ _ h => h)
                  have hOlt := HOw.out.lt
                  have hPlt := hoq.lt
                  have hsl : Sl wr (fun i => b + 2 ≤ i ∧ i < wr.heap.size) dInt (kindRow s f q) (.slice PA q pc) := Sl.of_own hoq (by simp) (kintz_rp (F := fun _ => False) _ (kindRow_ran HRn.out f q)) (fun _ h => h.elim) (fun i h => hPlt i h)
                  have hrp := RpAll.keeps HRp.out hkq (fun _ _ h => h)
                  have HHo := Lib.hid hown
                  have HHs := Lib.hid hsl
                  have HHr := Lib.hid hrp
                  have HOl := Lib.hid hOlt
                  have HKq := Lib.hid hkq
                  have hM1 : j + 1 ≤ 4096 := by omega
                  clear hkq hbq hoq hkw hS hsl hrp hOlt hPlt
                  go_wp2_with (at_builtin; refine wpList_append_lies _ rfl _ _ 23 rfl C 29 i1 _ 2 40 Tryd.underlying23 hi1 hy0 hy1 hy2 rfl (by omega) _ j _ rfl (World.ownsRow.alloc hown _) ⟨wr.heap.size, 0, none⟩ 1 1 [.string d.name, .slice PA q pc] rfl rfl (World.news_of_block (cs := #[.string d.name, .slice PA q pc]) (t := 29) (fr := (0, 0)) (heap_alloc_new _ _)) (by simp [Value.oneCell']) (by omega) (by unfold maxLen; omega) (by omega) (by simp; omega) (wr.heap.size + 1) (by simp) ?_; intro gg cap w2 hown2 hgrow hat hlt2; have hk2 : Keeps (fun i => (Value.slice OA j oc).ownBlock = some i) wr w2 := ((Keeps.refl (fun i => (Value.slice OA j oc).ownBlock = some i) wr).alloc _).grown hgrow (fun i hi _ => hi); replace hat : (Value.slice OA j oc).ownBlock = some gg ∨ gg = wr.heap.size + 1 := hat; clear hgrow)
                  have hlo : ∀ i, (Value.slice OA j oc).ownBlock = some i → C ≤ i ∧ i < wo.heap.size := HOl.out
                  have hgn : ∀ i, i < wr.heap.size → ¬ (Value.slice OA j oc).ownBlock = some i → ¬ gg = i := fun i hi hn h => by
                    rcases hat with hat | hat
                    · exact hn (by rw [← h]; exact hat)
                    · omega
                  have HW2 := Lib.hid (show Keeps (fun _ => False) w4 w2 from (HKo.out.trans HKq.out (fun _ _ h => h)).trans hk2 (fun i hi h => by have := (hlo i h).1; omega))
                  have hz2w := hk2.size
                  have HR2 : Hid (RpAll w2 (fun i => i < w2.heap.size ∧ ¬ (Value.slice (some ⟨gg, 0, none⟩) (j + 1) cap).ownBlock = some i) ((L.take (j + 1)).map KindSig.d) (cs ++ [.string d.name, .slice PA q pc])) := by
                    rw [HLs.out]
                    refine kind_snoc (HHr.out.keeps hk2 (fun i hi h => hi.2 h)) (fun i hi => ?_) HNs.out ?_
                    · have hiz : i < wr.heap.size := Nat.lt_of_lt_of_le hi.1 HKq.out.size
                      exact ⟨Nat.lt_of_lt_of_le hiz hz2w, fun h => hgn i hiz hi.2 (own_some h)⟩
                    · exact (HHs.out.keeps hk2 (fun i hi h => by have := (hlo i h).2; have := HB0.out; omega)).mono (fun i hi => ⟨Nat.lt_of_lt_of_le hi.2 hz2w, fun h => hgn i hi.2 (fun h' => by have := (hlo i h').2; have := HB0.out; omega) (own_some h)⟩)
                  have HO2 := Lib.hid hown2
                  clear hown2 hat hk2
                  refine ⟨⟨j + 1, _, by omega, by go_num, HW2.out, HO2.out, HR2.out⟩, by simp [intOf]; omega⟩
            · obtain rfl : j = datas.length := by omega
              have j1 : ¬ (datas.length : Int) < (datas.length : Int) := by omega
              have HBf := Lib.hid (HEx.out _ (HK.out.trans hk (fun _ _ h => h.elim))).1
              have hLL := HLl.out
              rw [List.take_of_length_le (by omega)] at hrp
              have hsl : Sl wr (· < wr.heap.size) KindSig.d L (.slice OA datas.length oc) := Sl.of_own hown hLL.symm hrp (fun i h => h.1) (fun i h => (hown.lt i h).2)
              have HHs := Lib.hid hsl
              clear hk hown hrp hsl
              go_wp2_with fail
              go_ret2
              exact ⟨HBf.out, .inl ⟨s, _, HOk.out, rfl, by rw [HFs.out, HL.out]; exact HHs.out⟩⟩
end Go.Proofs.YtjofndhbpglfgaaDoor
