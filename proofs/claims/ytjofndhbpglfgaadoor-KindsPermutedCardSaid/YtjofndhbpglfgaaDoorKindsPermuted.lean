/- KindsPermuted: whatever the data types and the number, the law answers true. The card ties the variable unify.sizes to the program's text. -/
import Derived.Test.YtjofndhbpglfgaaDoorKInf
import Derived.Test.YtjofndhbpglfgaaDoorKEq
import Derived.Test.YtjofndhbpglfgaaDoorWithin
import Derived.Test.YtjofndhbpglfgaaDoorHanded
import Derived.Lib.LaidTab
import Derived.LaidSub
namespace Go.Proofs.YtjofndhbpglfgaaDoor.kindsPermuted
open Go.RowKit Go.Shelf Go.ChangeShapes Go.WideShapes Go.Proofs.YtjofndhbpglfgaaDoor

def nameT : ByteArray := ⟨#[84]⟩
theorem sl_lit {α : Type} {f : α → D} {W : World} {F : Nat → Prop} {x : α} {g : Nat} {t : TypeId} {cs : List Value} (hb : Blk W g t cs) (hg : F g) (hr : Rp W F (f x) cs) : Sl W F f [x] (.slice (some ⟨g, 0, none⟩) 1 1) := by
  unfold Sl
  simp only [Rp]
  exact ⟨_, 1, rfl, by simp, by unfold maxLen; omega, (fun h => nomatch h), fun _ => ⟨g, 0, _, rfl, hg, RpAll.one hr, fun j u hj => by rw [Nat.zero_add]; exact hb.cell hj⟩⟩
def one : List DataSig := [⟨nameT, 1, []⟩]
theorem one_ok : ∃ s, InfOK one s := ⟨_, by decide, (pre_iff one).2 ⟨by simp [one, Names], by simp [one]⟩, rfl⟩
/-- The first call. -/
theorem first_call (W : World) (g : Nat) (hg : Blk W g 32 [.string nameT, .int .i64 1, .slice none 0 0]) (hz : Szs W) :
    Calls Tryd.prog 12 #[.slice none 0 0, .slice (some ⟨g, 0, none⟩) 1 1] W fun e w' => Below W.heap.size W w' ∧ ∃ A c, e = .returned (.tuple #[.slice A 1 c, .int .i64 0]) := by
  refine (infer_any one _ W (sl_lit hg hg.lt (DataSig.rp.2 ⟨_, rfl, by unfold maxLen; decide, by decide, Sl.nil_⟩)) hz).mono ?_
  rintro e w' ⟨hb, (⟨s, v, hok, rfl, hsl⟩ | ⟨hno, _⟩)⟩
  · obtain ⟨A, c, rfl, _⟩ := hsl.form
    rw [kindsOf_length (by simp)]
    exact ⟨hb, A, c, rfl⟩
  · obtain ⟨s, hs⟩ := one_ok
    exact absurd hs (hno s)
theorem turned_perm (datas : List DataSig) (k : Nat) : datas.Perm (datas.drop k ++ datas.take k) := by
  have := List.perm_append_comm (l₁ := datas.take k) (l₂ := datas.drop k)
  rwa [List.take_append_drop] at this

set_option maxRecDepth 100000 in
set_option maxHeartbeats 16000000 in
theorem walk (datas : List DataSig) (dv : Value) (n : Int) (W : World) (hd : Sl W (· < W.heap.size) DataSig.d datas dv) (hby : datas.length * 48 ≤ 140737488355328) (hz : Szs W) :
    Calls Tryd.prog 4 #[dv, .int .i64 n] W fun e W' => e = .returned (.bool true) ∧ Below W.heap.size W W' := by
  obtain ⟨i0, hi0, hx0, hx1, hx2⟩ := info_parts infoDataSig
  obtain ⟨DA, dc, rfl, hdl, hdm, _⟩ := hd.form
  have hlm : datas.length ≤ 1000000000000000 := by omega
  obtain ⟨Z, hZ⟩ : ∃ Z, W.heap.size = Z := ⟨_, rfl⟩
  obtain ⟨W1, hW1⟩ : ∃ W1, W.alloc (.cells #[.string nameT, .int .i64 1, .slice none 0 0] 32) = W1 := ⟨_, rfl⟩
  have hg1 : Blk W1 Z 32 [.string nameT, .int .i64 1, .slice none 0 0] := by rw [← hW1, ← hZ]; exact Blk.new W _ [_, _, _]
  have hb1 : Below Z W W1 := by rw [← hW1]; exact (Below.refl Z W).alloc (by omega) _
  have hZ0 : 0 < Z := by have := block_lt_of_cell hz.c0; dsimp at this; omega
  have HC1 := Lib.hid (first_call W1 Z hg1 (hz.below hb1 hZ0))
  have HD := Lib.hid hd
  have HSz := Lib.hid hz
  have HZ := Lib.hid hZ
  have HW1 := Lib.hid hW1
  have HB1 := Lib.hid hb1
  clear hd hz hZ hW1 hg1 hb1
  unfold nameT at HW1
  go_enter Tryd.func4, Tryd.ntmps4
  go_wp2_with fail
  rw [HW1.out, HZ.out]
  with_reducible refine HC1.out.mono ?_
  rintro e w2 ⟨hb2, A1, c1, rfl⟩
  have HB2 := Lib.hid (show Below Z W w2 from HB1.out.trans (hb2.mono (by have := HB1.out.size; have := HZ.out; omega)))
  clear hb2
  match hdat : datas with
  | [] =>
    go_wp2_with fail
    go_ret
    exact ⟨rfl, by rw [HZ.out]; exact HB2.out⟩
  | d0 :: r0 =>
  rw [← hdat] at HD hlm hby hdl ⊢
  have hlen : 1 ≤ datas.length := by rw [hdat]; simp
  have hl0 : ((datas.length : Int) == 0) = false := by rw [beq_eq_false_iff_ne]; omega
  have HWi := Lib.hid (fun X => within_any n 0 ((datas.length : Int) - 1) X (by omega) (by omega) (by omega) (by omega))
  obtain ⟨k, hk⟩ : ∃ k : Nat, withinI n 0 ((datas.length : Int) - 1) = (k : Int) := ⟨(withinI n 0 ((datas.length : Int) - 1)).toNat, by have := withinI_lo n 0 ((datas.length : Int) - 1) (by omega); omega⟩
  have hkl : k < datas.length := by have := withinI_hi n 0 ((datas.length : Int) - 1) (by omega); omega
  rw [hk] at HWi
  clear hdat hk
  have hk0 : (0 : Int) ≤ (k : Int) := by omega
  go_wp2_with fail
  with_reducible refine (HWi.out _).mono ?_
  rintro e w3 ⟨rfl, rfl⟩
  have hz2 := HB2.out.size
  have hdw : Sl w2 (· < w2.heap.size) DataSig.d datas (.slice DA datas.length dc) := (HD.out.later (by rw [HZ.out]; exact HB2.out)).mono (fun b hb => Nat.lt_of_lt_of_le hb hz2)
  obtain ⟨gd, off, cons, hadr, hgd, e0, _⟩ := DataSig.get hdw (i := 0) (by omega)
  obtain rfl := hadr
  have hdrop := Sl.drop hdw DataSig.wide (i := k) (by omega)
  have htake := Sl.take hdw (i := k) (by omega)
  rw [if_neg (by omega)] at hdrop
  have hdrop' : Sl w2 (· < w2.heap.size) DataSig.d (datas.drop k) (.slice (some ⟨gd, off + k * 3, none⟩) (datas.length - k) (dc - k)) := by
    have e : (Option.map (fun x => x.add (k * 3)) (some (⟨gd, off, none⟩ : Addr))) = some ⟨gd, off + k * 3, none⟩ := by
      simp only [Option.map_some, Addr.add]
      split <;> simp_all
    rw [← e]; exact hdrop
  have HDw := Lib.hid hdw
  have HTk := Lib.hid htake
  have HCl : Hid (∀ X, Keeps (fun _ => False) w2 X → Calls Tryd.prog 15 #[.slice (some ⟨gd, off + k * 3, none⟩) (datas.length - k) (dc - k)] X (DataSigCloned (datas.drop k) (· < w2.heap.size) X)) := fun X hk =>
    dataSigClone _ _ _ X (hdrop'.keeps hk (fun _ _ h => h)) (fun b hb => Nat.lt_of_lt_of_le hb hk.size) (by rw [List.length_drop]; omega)
  have hk1 : (k : Int) ≤ (datas.length : Int) := by omega
  have hk2 : (datas.length : Int) ≤ (dc : Int) := by omega
  have hk3 : (k : Int) ≤ (dc : Int) := by omega
  have hdcm : (dc : Int) ≤ 9223372036854775807 := by unfold maxLen at hdm; omega
  have hne : ¬ dc = k := by omega
  have HM := Lib.hid (show (datas.drop k).length + k ≤ maxLen by rw [List.length_drop]; unfold maxLen; omega)
  have HBy := Lib.hid (show ((datas.drop k).length + k) * 48 ≤ 140737488355328 by rw [List.length_drop]; omega)
  clear hdw hdrop hdrop' htake e0
  go_wp2_with fail
  refine wp_region_noPanic ?_
  refine wp_region_till [] (fun _ => True) (by kernel_rfl) ?_ (fun hE => ?_)
  · exact trivial
  have hS := hE (by kernel_rfl)
  refine wpAnyT_pure (i := 0) (oi := { dst := some 37, op := Op.move (Operand.tmp 0), type := 22, pos := "types.go:252", after := #[], guard := none }) (v := ?v7_0) rfl (by kernel_rfl) (fun _ _ _ h => h) (Or.inl ⟨by rfl, ?y7_0⟩) (fun _ => hS) ?_
  case y7_0 => (intro w hSw; go_simp; try with_reducible rfl)
  try simp only [Act.put, List.setIfInBounds_toArray, List.set_cons_zero, List.set_cons_succ]
  refine wpAnyT_pure (i := 1) (oi := { dst := some 38, op := Op.move (Operand.tmp 1), type := 3, pos := "types.go:252", after := #[], guard := none }) (v := ?v7_1) rfl (by kernel_rfl) (fun _ _ _ h => h) (Or.inl ⟨by rfl, ?y7_1⟩) (fun _ => hS) ?_
  case y7_1 => (intro w hSw; go_simp; try with_reducible rfl)
  try simp only [Act.put, List.setIfInBounds_toArray, List.set_cons_zero, List.set_cons_succ]
  refine wpAnyT_pure (i := 2) (oi := { dst := some 39, op := Op.slice 22 (Operand.tmp 37) (some (Operand.tmp 38)) none none, type := 22, pos := "types.go:252", after := #[{ on := 0, ground := Ground.data }, { on := 1, ground := Ground.data }], guard := none }) (v := ?v7_2) rfl (by kernel_rfl) (fun _ _ _ h => h) (Or.inl ⟨by rfl, ?y7_2⟩) (fun _ => hS) ?_
  case y7_2 => (intro w hSw; go_simp; try with_reducible rfl)
  try simp only [Act.put, List.setIfInBounds_toArray, List.set_cons_zero, List.set_cons_succ]
  refine wpAnyT_pure (i := 4) (oi := { dst := some 41, op := Op.move (Operand.tmp 0), type := 22, pos := "types.go:252", after := #[], guard := none }) (v := ?v7_4) rfl (by kernel_rfl) (fun _ _ _ h => h) (Or.inl ⟨by rfl, ?y7_4⟩) (fun _ => hS) ?_
  case y7_4 => (intro w hSw; go_simp; try with_reducible rfl)
  try simp only [Act.put, List.setIfInBounds_toArray, List.set_cons_zero, List.set_cons_succ]
  refine wpAnyT_pure (i := 5) (oi := { dst := some 42, op := Op.move (Operand.tmp 1), type := 3, pos := "types.go:252", after := #[], guard := none }) (v := ?v7_5) rfl (by kernel_rfl) (fun _ _ _ h => h) (Or.inl ⟨by rfl, ?y7_5⟩) (fun _ => hS) ?_
  case y7_5 => (intro w hSw; go_simp; try with_reducible rfl)
  try simp only [Act.put, List.setIfInBounds_toArray, List.set_cons_zero, List.set_cons_succ]
  refine wpAnyT_pure (i := 6) (oi := { dst := some 43, op := Op.slice 22 (Operand.tmp 41) none (some (Operand.tmp 42)) none, type := 22, pos := "types.go:252", after := #[{ on := 4, ground := Ground.data }, { on := 5, ground := Ground.data }], guard := none }) (v := ?v7_6) rfl (by kernel_rfl) (fun _ _ _ h => h) (Or.inl ⟨by rfl, ?y7_6⟩) (fun _ => hS) ?_
  case y7_6 => (intro w hSw; go_simp; try with_reducible rfl)
  try simp only [Act.put, List.setIfInBounds_toArray, List.set_cons_zero, List.set_cons_succ]
  refine wpAnyT_ready (rs := [3]) (by kernel_rfl) rfl ?_
  refine AllT.cons (o := { dst := some 40, op := Op.call { callee := Callee.value (Operand.func 15), args := #[Operand.tmp 39], argTypes := #[22] }, type := 22, pos := "types.go:252", after := #[{ on := 2, ground := Ground.data }], guard := none }) rfl (fun K hK => ?_) ?_
  · (go_simp; go_at_call 15; refine (HCl.out _ (by repeat (first | with_reducible exact Keeps.refl _ _ | with_reducible refine Keeps.drew ?_))).mono ?_; rintro e w4 ⟨v1, xs, rfl, hown, hrp, hb4⟩; have hk4 : Keeps (fun _ => False) w2 w4 := ((Keeps.refl (fun _ => False) w2).drew).trans (Keeps.of_below (X := fun _ => False) hb4) (fun _ _ h => h); go_wp2_with fail)
    refine hK.out _ _ (fun _ => ?_) (fun hE => ?_)
    · exact trivial
    have hS := hE (by kernel_rfl)
    clear hK K hE
    try simp only [Act.put, List.setIfInBounds_toArray, List.set_cons_zero, List.set_cons_succ]
    refine wpAnyT_ready (rs := [7]) (by kernel_rfl) rfl ?_
    refine AllT.cons (o := { dst := some 44, op := Op.call { callee := Callee.builtin Builtin.append, args := #[Operand.tmp 40, Operand.tmp 43], argTypes := #[22, 22] }, type := 22, pos := "types.go:252", after := #[{ on := 3, ground := Ground.data }, { on := 6, ground := Ground.data }, { on := 3, ground := Ground.chain }], guard := none }) rfl (fun K hK => ?_) ?_
    · (refine step_append_sl _ rfl (.tmp 40) (.tmp 43) 22 rfl w2.heap.size 32 i0 _ 3 48 Tryd.underlying22 hi0 hx0 hx1 hx2 rfl (by decide) v1 (datas.drop k).length xs rfl hown DataSig.d DataSig.wide (· < w2.heap.size) (datas.take k) _ k dc rfl (HTk.out.keeps hk4 (fun _ _ h => h)) HM.out HBy.out hk4.size ?_; intro v2 w5 news hnews hown2 hgrow hat)
      refine hK.out _ _ (fun _ => ?_) (fun hE => ?_)
      · exact trivial
      have hS := hE (by kernel_rfl)
      clear hK K hE
      try simp only [Act.put, List.setIfInBounds_toArray, List.set_cons_zero, List.set_cons_succ]
      refine wpAnyT_ready (rs := [8]) (by kernel_rfl) rfl ?_
      refine AllT.cons (o := { dst := some 7, op := Op.assign (Operand.tmp 44), type := 22, pos := "types.go:252", after := #[{ on := 7, ground := Ground.data }, { on := 7, ground := Ground.chain }, { on := 0, ground := Ground.phase }, { on := 1, ground := Ground.phase }, { on := 2, ground := Ground.phase }, { on := 3, ground := Ground.phase }, { on := 4, ground := Ground.phase }, { on := 5, ground := Ground.phase }, { on := 6, ground := Ground.phase }, { on := 7, ground := Ground.phase }], guard := none }) rfl (fun K hK => ?_) ?_
      · go_simp
        refine hK.out _ _ (fun _ => ?_) (fun hE => ?_)
        · exact trivial
        have hS := hE (by kernel_rfl)
        clear hK K hE
        try simp only [Act.put, List.setIfInBounds_toArray, List.set_cons_zero, List.set_cons_succ]
        refine wpAnyT_done (by kernel_rfl) ?_ _
        refine NoPanic.normal ?_
        have hT : (datas.drop k).length + k = (datas.drop k ++ datas.take k).length := by rw [List.length_append, List.length_drop, List.length_take]; omega
        have hv1 : ∀ b, b < w2.heap.size → some b ≠ v1.ownBlock := fun b hb h => by have := (hown.lt b h.symm).1; dsimp at this; omega
        have hkw5 : Keeps (fun i => w2.heap.size ≤ i) w2 w5 := (hk4.mono (fun _ _ h => h.elim)).grown hgrow (fun i hi _ => (hown.lt i hi).1)
        have hrT : RpAll w5 (· < w2.heap.size) ((datas.drop k ++ datas.take k).map DataSig.d) (xs ++ news) := by rw [List.map_append]; exact RpAll.append (hrp.grown hgrow hv1) (hnews.grown hgrow hv1)
        have hz5 := hkw5.size
        have hsT : Sl w5 (· < w5.heap.size) DataSig.d (datas.drop k ++ datas.take k) v2 := Sl.of_own hown2 hT hrT (fun b hb => Nat.lt_of_lt_of_le hb hz5) (fun b hb => (hown2.lt b hb).2)
        have HDat := Lib.hid (show Sl w5 (· < w5.heap.size) DataSig.d datas (.slice (some ⟨gd, off, none⟩) datas.length dc) from (HDw.out.keeps hkw5 (fun i h h' => by omega)).mono (fun i h => Nat.lt_of_lt_of_le h hz5))
        have HB5 := Lib.hid (show Below Z W w5 from HB2.out.trans (hkw5.below (fun i h => by have := HZ.out; omega) (by have := HZ.out; omega)))
        have HPm := Lib.hid (turned_perm datas k)
        obtain ⟨T, hTe⟩ : ∃ T, datas.drop k ++ datas.take k = T := ⟨_, rfl⟩
        rw [hTe] at hsT HPm
        have HTur := Lib.hid hsT
        have HI1 := Lib.hid (infer_any datas _ w5 HDat.out (HSz.out.below HB5.out hZ0))
        have hz5' : Z ≤ w5.heap.size := by have := HZ.out; omega
        clear hT hv1 hkw5 hrT hsT hown hrp hb4 hk4 hnews hown2 hgrow hat hTe
        go_wp2_with fail
        with_reducible refine HI1.out.mono ?_
        rintro e w6 ⟨hb6, hp6⟩
        have HB6 := Lib.hid (HB5.out.trans (hb6.mono hz5'))
        have HTu6 := Lib.hid ((HTur.out.later hb6).mono (fun b hb => Nat.lt_of_lt_of_le hb hb6.size))
        have HDa6 := Lib.hid ((HDat.out.later hb6).mono (fun b hb => Nat.lt_of_lt_of_le hb hb6.size))
        have HI2 := Lib.hid (infer_any T _ w6 HTu6.out (HSz.out.below HB6.out hZ0))
        have hz6 := hb6.size
        obtain ⟨TA, tc, rfl, _⟩ := HTu6.out.form
        clear hb6
        rcases hp6 with ⟨s, v6, hok, rfl, hsl⟩ | ⟨hno, r, hr, rfl⟩
        · have hL0 : (kindsOf datas (firstsOf datas 3) s).length = datas.length := kindsOf_length (by simp)
          have HOk := Lib.hid hok
          have HSl := Lib.hid hsl
          clear hok hsl
          go_wp2_with fail
          with_reducible refine HI2.out.mono ?_
          rintro e w7 ⟨hb7, hp7⟩
          have HB7 := Lib.hid (HB6.out.trans (hb7.mono (by omega)))
          have HDa7 := Lib.hid ((HDa6.out.later hb7).mono (fun b hb => Nat.lt_of_lt_of_le hb hb7.size))
          have HSl7 := Lib.hid ((HSl.out.later hb7).mono (fun b hb => Nat.lt_of_lt_of_le hb hb7.size))
          have hz7 := hb7.size
          clear hb7
          rcases hp7 with ⟨s', v7, hok', rfl, hsl'⟩ | ⟨hno', r', hr', rfl⟩
          · have hKP := kinds_perm HPm.out HOk.out hok'
            have hM0 : (kindsOf T (firstsOf T 3) s').length = T.length := kindsOf_length (by simp)
            rw [← HPm.out.length_eq] at hM0
            obtain ⟨L, hL⟩ : ∃ L, kindsOf datas (firstsOf datas 3) s = L := ⟨_, rfl⟩
            obtain ⟨M, hM⟩ : ∃ M, kindsOf T (firstsOf T 3) s' = M := ⟨_, rfl⟩
            rw [hL, hM] at hKP
            rw [hL] at HSl7 HSl hL0
            rw [hM] at hsl' hM0
            obtain ⟨LA, lc, rfl, hlL, hlL2, _⟩ := HSl7.out.form
            obtain ⟨MA, mc, rfl, hlM, hlM2, _⟩ := hsl'.form
            have HM7 := Lib.hid hsl'
            have HKP := Lib.hid hKP
            have hlx : L.length ≤ 9223372036854775807 := by unfold maxLen at hlL2; omega
            have HLM := Lib.hid (show L.length = M.length by omega)
            clear hKP hM hL hsl' hok' hL0 hM0
            go_wp2_with fail
            go_loopw [13, 14, 15, 72] (fun _ _ _ i wr => ∃ j : Nat, j ≤ L.length ∧ i = .int .i64 j ∧ Below Z W wr ∧ Below w7.heap.size w7 wr) (fun _ _ _ i _ => L.length - (intOf i).toNat)
            case atStart => exact ⟨0, Nat.zero_le _, rfl, HB7.out, Below.refl _ _⟩
            case round =>
              obtain ⟨j, hj, rfl, hbZ, hb7⟩ := hrel
              have hz8 := hb7.size
              have j0 : (0 : Int) ≤ (j : Int) := by omega
              by_cases hlt : j < L.length
              · obtain ⟨gl, offl, pv, hadl, hgl, a0, a1, hns, hps⟩ := KindSig.get (HSl7.out.later hb7) hlt
                obtain rfl := hadl
                obtain ⟨kk, hkk⟩ : ∃ kk, L[j] = kk := ⟨_, rfl⟩
                have hkm : kk ∈ L := by rw [← hkk]; exact List.getElem_mem hlt
                rw [hkk] at a0 hps
                obtain ⟨PA, pc, rfl, _⟩ := hps.form
                have hglz := block_lt_of_cell a0
                obtain ⟨k', hfk, hpar⟩ := HKP.out kk hkm
                obtain ⟨b, hb0⟩ : ∃ b, wr.heap.size = b := ⟨_, rfl⟩
                obtain ⟨W8, hW8⟩ : ∃ W8, wr.alloc (.cells #[.string kk.name, .slice PA kk.params.length pc] 29) = W8 := ⟨_, rfl⟩
                have hb8 : Below wr.heap.size wr W8 := by rw [← hW8]; exact (Below.refl _ _).alloc (Nat.le_refl _) _
                have hbk : Blk W8 b 29 [.string kk.name, .slice PA kk.params.length pc] := by rw [← hW8, ← hb0]; exact Blk.new wr _ [_, _]
                have HFi := Lib.hid (find_any M kk.name _ _ W8 ((HM7.out.later hb7).later hb8))
                have HBk := Lib.hid hbk
                have HPs := Lib.hid (hps.later hb8)
                have HBZ := Lib.hid (hbZ.trans (hb8.mono (by omega)))
                have HB78 := Lib.hid (hb7.trans (hb8.mono hz8))
                have HW8 := Lib.hid hW8
                have HB0 := Lib.hid hb0
                have HFk := Lib.hid hfk
                have HPr := Lib.hid hpar
                have hz9 := hb8.size
                have j1 : (j : Int) < (L.length : Int) := by omega
                clear hbZ hb7 hps hb8 hbk hW8 hb0 hfk hpar hkk hkm
                go_wp2_with fail
                rw [HW8.out, HB0.out]
                with_reducible refine HFi.out.mono ?_
                rintro e w9 ⟨hb9, (⟨k2, v2, hk2, rfl, hs2⟩ | ⟨hk2, _⟩)⟩
                · rw [HFk.out] at hk2
                  obtain rfl := Option.some.inj hk2
                  have hbk9 := HBk.out.later hb9
                  have d1 := hbk9.cell (i := 1) rfl
                  have hEq := kIntEqual k'.params kk.params v2 _ _ _ w9 hs2 (HPs.out.later hb9)
                  have HBZ9 := Lib.hid (HBZ.out.trans (hb9.mono (by omega)))
                  have HB79 := Lib.hid (HB78.out.trans (hb9.mono (by omega)))
                  have hz10 := hb9.size
                  by_cases heq : k'.params = kk.params
                  · rw [decide_eq_true heq] at hEq
                    have HEq := Lib.hid hEq
                    clear hEq heq hb9 hbk9 hs2 hk2
                    go_wp2_with fail
                    with_reducible refine HEq.out.mono ?_
                    rintro e w10 ⟨rfl, hb10⟩
                    have HBZ10 := Lib.hid (HBZ9.out.trans (hb10.mono (by omega)))
                    have HB710 := Lib.hid (HB79.out.trans (hb10.mono (by omega)))
                    clear hb10
                    go_wp2_with fail
                    go_roundw
                    case rel => exact ⟨j + 1, by omega, by go_num, HBZ10.out, HB710.out⟩
                    case measure => simp [intOf]; omega
                  · rw [decide_eq_false heq] at hEq
                    have hany : datas.any rowedP = true := by
                      cases hq : datas.any rowedP
                      · exact absurd (HPr.out hq) heq
                      · rfl
                    have HEq := Lib.hid hEq
                    have HAny := Lib.hid hany
                    clear hEq heq hb9 hbk9 hs2 hk2 hany
                    go_wp2_with fail
                    with_reducible refine HEq.out.mono ?_
                    rintro e w10 ⟨rfl, hb10⟩
                    have HBZ10 := Lib.hid (HBZ9.out.trans (hb10.mono (by omega)))
                    have HB710 := Lib.hid (HB79.out.trans (hb10.mono (by omega)))
                    have HAn := anyRowed datas _ _ w10 (HDa7.out.later HB710.out)
                    rw [HAny.out] at HAn
                    have HAn := Lib.hid HAn
                    have hz11 := hb10.size
                    clear hb10
                    go_wp2_with fail
                    with_reducible refine HAn.out.mono ?_
                    rintro e w11 ⟨rfl, hb11⟩
                    have HBZ11 := Lib.hid (HBZ10.out.trans (hb11.mono (by omega)))
                    have HB711 := Lib.hid (HB710.out.trans (hb11.mono (by omega)))
                    clear hb11
                    go_wp2_with fail
                    go_roundw
                    case rel => exact ⟨j + 1, by omega, by go_num, HBZ11.out, HB711.out⟩
                    case measure => simp [intOf]; omega
                · rw [HFk.out] at hk2; cases hk2
              · obtain rfl : j = L.length := by omega
                have j1 : ¬ (L.length : Int) < (L.length : Int) := by omega
                have hLM := HLM.out
                have hlm : ((L.length : Int) == (M.length : Int)) = true := by rw [beq_iff_eq]; omega
                have HBZ := Lib.hid hbZ
                clear hbZ hb7 hLM
                go_wp2_with fail
                go_ret
                exact ⟨rfl, by rw [HZ.out]; exact HBZ.out⟩
          · have hrb : (r' != 0) = true := by rw [bne_iff_ne]; exact hr'
            have hrc : (r' == 0) = false := by rw [beq_eq_false_iff_ne]; exact hr'
            have HAn := anyRowed datas _ _ w7 HDa7.out
            have hany : datas.any rowedP = true := by
              cases hq : datas.any rowedP
              · obtain ⟨s'', h''⟩ := ok_perm HPm.out hq HOk.out
                exact absurd h'' (hno' s'')
              · rfl
            rw [hany] at HAn
            have HAn := Lib.hid HAn
            clear hany hno' hr'
            go_wp2_with fail
            with_reducible refine HAn.out.mono ?_
            rintro e w8 ⟨rfl, hb8⟩
            have HB8 := Lib.hid (HB7.out.trans (hb8.mono (by omega)))
            clear hb8
            go_wp2_with fail
            go_ret
            exact ⟨rfl, by rw [HZ.out]; exact HB8.out⟩
        · have hrb : (r != 0) = true := by rw [bne_iff_ne]; exact hr
          have hrc : (r == 0) = false := by rw [beq_eq_false_iff_ne]; exact hr
          have HNo := Lib.hid hno
          clear hno hr
          go_wp2_with fail
          with_reducible refine HI2.out.mono ?_
          rintro e w7 ⟨hb7, hp7⟩
          have HB7 := Lib.hid (HB6.out.trans (hb7.mono (by omega)))
          have HDa7 := Lib.hid ((HDa6.out.later hb7).mono (fun b hb => Nat.lt_of_lt_of_le hb hb7.size))
          have hz7 := hb7.size
          clear hb7
          rcases hp7 with ⟨s', v7, hok', rfl, hsl'⟩ | ⟨hno', r', hr', rfl⟩
          · have HAn := anyRowed datas _ _ w7 HDa7.out
            have hany : datas.any rowedP = true := by
              cases hq : datas.any rowedP
              · obtain ⟨s'', h''⟩ := ok_perm HPm.out.symm (perm_rowed HPm.out hq) hok'
                exact absurd h'' (HNo.out s'')
              · rfl
            rw [hany] at HAn
            have HAn := Lib.hid HAn
            clear hany hok' hsl'
            go_wp2_with fail
            with_reducible refine HAn.out.mono ?_
            rintro e w8 ⟨rfl, hb8⟩
            have HB8 := Lib.hid (HB7.out.trans (hb8.mono (by omega)))
            clear hb8
            go_wp2_with fail
            go_ret
            exact ⟨rfl, by rw [HZ.out]; exact HB8.out⟩
          · have hrb' : (r' != 0) = true := by rw [bne_iff_ne]; exact hr'
            have hrc' : (r' == 0) = false := by rw [beq_eq_false_iff_ne]; exact hr'
            clear hr' hno'
            go_wp2_with fail
            go_ret
            exact ⟨rfl, by rw [HZ.out]; exact HB7.out⟩
      exact AllT.nil
    exact AllT.nil
  exact AllT.nil

theorem own : ownKnob Tryd.prog.godebug = none := by kernel_rfl
theorem gSizes : Tryd.prog.globalNamed "provenance/unify.sizes" = some 0 := by kernel_rfl
theorem szs_of_laid {W : World} (h : laidMetH Tryd.prog Rows.kindsPermutedRow.laid W) : Szs W := by
  have h2 : laidMetH Tryd.prog [("provenance/unify.sizes", Lib.tabData .i64 [0, -1, 3, 1, 0, 2])] W := h
  rw [MakeChecks.laidMetH_plain _ _ _ (by kernel_rfl)] at h2
  have ht := Lib.tabIs_of_head gSizes (by kernel_rfl) Tryd.underlying112 Tryd.underlying3 (by kernel_rfl) (by kernel_rfl) h2
  unfold Lib.TabIs at ht
  exact ⟨by rw [World.var?_cell gSizes ht]; rfl, by rw [World.var?_cell gSizes ht]; rfl, by rw [World.var?_cell gSizes ht]; rfl, by rw [World.var?_cell gSizes ht]; rfl, by rw [World.var?_cell gSizes ht]; rfl, by rw [World.var?_cell gSizes ht]; rfl⟩

theorem laid : laidOutB Tryd.prog = true := by kernel_rfl

set_option maxRecDepth 100000 in
theorem lifted (os : Os) (started : os.Started) (H : Type) (enc : TypeId × Value → H) :
    ReturnsInHanded {} Tryd.checked os 4 .any (fun w args => (Rows.kindsPermutedSpec.pre enc Tryd.prog Tryd.f4 [] false w args ∧ laidMetH Tryd.prog Rows.kindsPermutedRow.laid w) ∧ sizedMet enc Tryd.prog Tryd.f4 (OpenSpec.ofChange Rows.kindsPermutedSpec) false w args)
      (Rows.kindsPermutedSpec.post enc Tryd.prog Tryd.f4 false true false false) := by
  refine handed_shaped_laid (C := Tryd.checked) (L := Rows.kindsPermutedRow.laid) own started (by kernel_rfl) Tryd.func4
    (ChangeSpec.witness_shaped (enc := enc) (C := Tryd.checked) (os := os) (X := fun w _ => laidMetH Tryd.prog Rows.kindsPermutedRow.laid w) false (World.laidAll Tryd.prog os Rows.kindsPermutedRow.laid) #[.slice none 0 0, .int .i64 0] 8 (World.laidAll_os _ _ _)
      (World.shaped_of_ZipB (by kernel_rfl) (by kernel_rfl)) (by kernel_rfl) (by kernel_rfl) (by kernel_rfl)
      (by rw [MakeChecks.laidMetH_plain _ _ _ (by kernel_rfl)]; exact laidMet_laidAll _ (by kernel_rfl) (by kernel_rfl))) ?_
  intro W base args ds gs before hval0 hW hsz0 _ hlaid
  have hz := szs_of_laid hlaid
  have hval : ∀ (j : Nat) t v, Tryd.f4.params[j]? = some t → args[j]? = some v → Value.okWide Tryd.prog W .any base t v := hval0
  have hW' := hW
  obtain ⟨p, q, hA0, hV, hbef, hfz, hnd⟩ := hW
  have hA : DataW.TrodAll enc Tryd.prog W 0 (fun _ => true) true Tryd.f4.params.toList args.toList ds p := hA0
  have hsz : (DataW.weightsEach Tryd.prog (Tryd.f4.params.toList ++ Rows.kindsPermutedSpec.plain.varTypes Tryd.prog) (ds ++ gs)).all (· ≤ reachBytes) = true := hsz0
  rw [Tryd.params4] at hA hval hsz
  obtain ⟨v0, vs0, d0, ds0, p0, q0, hargs, hds, rfl, h0, r0⟩ := trodAll_cons hA
  obtain ⟨v1, vs1, d1, ds1, p1, q1, rfl, rfl, rfl, h1, r1⟩ := trodAll_cons r0
  obtain ⟨rfl, rfl, rfl⟩ := trodAll_nil r1
  obtain rfl : args = #[v0, v1] := by cases args; simp_all
  obtain ⟨rfl, _⟩ := trodVars_none hV
  subst hds
  obtain ⟨a0, s0, b0⟩ := sl_of_arg_sized (f := DataSig.d) (k := 3) Tryd.underlying22 (by kernel_rfl) (by decide) (fun _ _ _ h => DataSig.of_trod h) (hval 0 22 v0 rfl rfl) h0 (weight_at hsz (j := 0) rfl rfl)
  rw [show Tryd.prog.bytesOf 32 = 48 from by kernel_rfl] at b0
  obtain ⟨a1, rfl, rfl, rfl, s1⟩ := open_int Tryd.underlying3 (hval 1 3 v1 rfl rfl) h1
  refine (walk a0 v0 a1 W s0 (by omega) hz).mono fun e W' ⟨he, hb⟩ => ?_
  subst he
  exact ⟨_, rfl, law_post laid (by kernel_rfl) rfl Tryd.underlying4 rfl rfl rfl rfl hW' hb⟩

theorem over : Rows.kindsPermutedRow.holds Tryd.pinned (OpenSpec.ofChange Rows.kindsPermutedSpec) :=
  OpenClaim.holds_of_wide 4 Tryd.f4 rfl rfl rfl rfl rfl rfl rfl ⟨rfl, rfl, rfl, rfl, rfl⟩ rfl rfl rfl rfl rfl (by kernel_rfl) Tryd.func4 (by kernel_rfl)
    (of_decide_eq_true (by kernel_rfl)) (by unfold Func.isWrapper; first | (rw [if_pos (by decide +kernel)]; kernel_rfl) | (rw [if_neg (by decide +kernel)]; exact ⟨rfl, rfl⟩))
    (fun os started H enc _ => lifted os started H enc)

theorem proved : Rows.KindsPermutedCardSaid :=
  Claim7.holds_tied_plain_at .later [] [.data] true Rows.kindsPermutedCard.stood.harness false over (fun _ h => by cases h) (by kernel_rfl) (fun _ h => by cases h) kindsPermuted_row_tie rfl ⟨rfl, rfl⟩ (by kernel_rfl) rfl
    (fun f fn hf hfn => by
      obtain rfl : f = 4 := Option.some.inj ((show Tryd.prog.funcNamed Tryd.f4.name = some 4 by kernel_rfl).symm.trans hf) |>.symm
      obtain rfl : fn = Tryd.f4 := (Option.some.inj (Tryd.func4.symm.trans hfn)).symm
      exact ⟨by kernel_rfl, fun j t ht => by
        rw [Tryd.params4] at ht
        have hm : t ∈ [22, 3] := by simpa using Array.mem_of_getElem? ht
        have hall : ([22, 3].all fun u => !Tryd.prog.wantsStandIn u) = true := by kernel_rfl
        exact (show Tryd.prog.wantsStandIn t = false by simpa using List.all_eq_true.1 hall t hm)⟩)
    (by kernel_rfl)
#print axioms proved
end Go.Proofs.YtjofndhbpglfgaaDoor.kindsPermuted

