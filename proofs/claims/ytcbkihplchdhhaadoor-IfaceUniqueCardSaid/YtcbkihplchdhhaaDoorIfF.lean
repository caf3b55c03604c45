/- The writer: requirements, values, constructors, data types, fixities, classes, instances, operations, interfaces. -/
import Derived.Test.YtcbkihplchdhhaaDoorIfE
namespace Go.Proofs.YtcbkihplchdhhaaDoor
open Go.RowKit Go.Shelf

namespace If
/-- The writer's state told anew of a later world. -/
theorem WrTo.rebase {B bw : Nat} {v : Value} {W w W0 : World} {bs : Bs} (T : WrTo B bw v W bs w) (hk : Keeps (fun _ => False) w W0) (hB : B ≤ bw) :
    ∃ v0, WrTo B bw v0 W0 bs W0 ∧ (∀ X bs', WrTo B bw v0 W0 bs' X → WrTo B bw v W bs' X) ∧ (∀ i, Own2 bw v0 i → i < w.heap.size) ∧ (∀ i, Own2 bw v0 i → B ≤ i) ∧ (∀ i, Own2 bw v0 i → Own2 bw v i ∨ W.heap.size ≤ i) := by
  obtain ⟨v0, h0, hk0, hn0⟩ := T
  refine ⟨v0, (h0.same hk).to, fun X bs' hX => WrTo.trans hk0 hn0 ?_, h0.lt, h0.lo hB, hn0⟩
  obtain ⟨v2, g1, g2, g3⟩ := hX
  exact ⟨v2, g1, (hk.mono (fun _ _ h => h.elim)).trans g2 (fun _ _ h => h), fun i hi => (g3 i hi).imp id (fun h => Nat.le_trans hk.size h)⟩
section
variable (W : World) (B bw : Nat) (v : Value)
theorem wtext_fn (hB : B ≤ bw) (s : ByteArray) : WFn 31 #[.pointer (some ⟨bw, 0, none⟩)] #[] argS dStr textW W B bw v s := by
  intro F cs w bs hR hF T hn
  obtain ⟨rfl, -⟩ := rp_str.1 hR
  exact wtext_to T hB s hn
theorem wtyp_fn (hB : B ≤ bw) (hlo : ∀ i, Own2 bw v i → B ≤ i) (t : Ty) : WFn 44 #[.pointer (some ⟨bw, 0, none⟩)] #[] argA tyD typW W B bw v t := by
  intro F cs w bs hR hF T hn
  obtain ⟨av, rfl, hT⟩ := tyD.rp.1 hR
  exact wtyp_any t W w F av B bw v bs (hT.keeps T.keeps (T.far hlo hF)) hF hB T hn
end
set_option maxRecDepth 100000 in
set_option maxHeartbeats 8000000 in
theorem wpred_fn (W : World) (B bw : Nat) (v : Value) (hB : B ≤ bw) (hlo : ∀ i, Own2 bw v i → B ≤ i) (x : Pred) : WFn 46 #[.pointer (some ⟨bw, 0, none⟩)] #[] argA Pred.d predW W B bw v x := by
  have _ := hlo
  intro F cs w bs hR hF T hn
  obtain ⟨v1, rfl, s0, s1⟩ := Pred.rp.1 hR
  obtain ⟨A1, q1, rfl, -, -, -⟩ := s1.form
  show Calls _ _ #[.pointer (some ⟨bw, 0, none⟩), .agg #[.string x.cls, .int .i64 x.ty.kind, .string x.ty.name, .int .i64 x.ty.var, .slice A1 x.ty.args.length q1]] _ _
  obtain ⟨bt, hbt⟩ : ∃ bt, w.heap.size = bt := ⟨_, rfl⟩
  obtain ⟨W0, hW0⟩ : ∃ W0, w.alloc (.cells #[.string x.cls, .int .i64 x.ty.kind, .string x.ty.name, .int .i64 x.ty.var, .slice A1 x.ty.args.length q1] 104) = W0 := ⟨_, rfl⟩
  have hkw : Keeps (fun _ => False) w W0 := by rw [← hW0]; exact (Keeps.refl _ _).alloc _
  have hbx0 : Blk W0 bt 104 [.string x.cls, .int .i64 x.ty.kind, .string x.ty.name, .int .i64 x.ty.var, .slice A1 x.ty.args.length q1] := by rw [← hW0, ← hbt]; exact Blk.new w _ [_, _, _, _, _]
  obtain ⟨v0, t0, hend, hlt0, hlo0, hor0⟩ := T.rebase hkw hB
  have HD1 := Lib.hid ((s1.keeps T.keeps (T.far hlo hF)).keeps hkw (fun _ _ h => h))
  have hnt : ¬ Own2 bw v0 bt := fun h => by have := hlt0 bt h; omega
  have HBx : Hid (∀ X bs', WrTo B bw v0 W0 bs' X → Blk X bt 104 [.string x.cls, .int .i64 x.ty.kind, .string x.ty.name, .int .i64 x.ty.var, .slice A1 x.ty.args.length q1]) := fun X bs' hX => hbx0.keeps hX.keeps hnt
  have HEq : Hid (bs ++ predW x = bs ++ textW x.cls ++ typW x.ty) := by show _ = _; unfold predW; simp only [List.append_assoc]
  have HEnd := Lib.hid hend
  have HN : Hid (bs.length + (textW x.cls).length + (typW x.ty).length ≤ 4194304) := by unfold predW at hn; simp only [List.length_append] at hn; show _ ≤ _; omega
  have HF := Lib.hid hF
  have HB := Lib.hid hB
  have HLo := Lib.hid hlo0
  have HW0 := Lib.hid hW0
  have HBt := Lib.hid hbt
  have T0 := Lib.hid t0
  have x0_0 := (HBx.out _ _ T0.out).cell (i := 0) rfl
  clear hR hF T hn hkw hbx0 t0 hend hlt0 hlo0 hor0 hnt hB hlo hW0 hbt s0 s1
  go_enter Tryd.func46, Tryd.ntmps46
  go_upto_region 1 with (fail)
  rw [HW0.out, HBt.out]
  go_wp2_with fail
  refine (wtext_to T0.out HB.out x.cls (by have := HN.out; omega)).mono ?_
  rintro e w1 ⟨rfl, t1⟩
  have T1 := Lib.hid t1
  clear t1 x0_0
  have x1_1 := (HBx.out _ _ T1.out).cell (i := 1) rfl
  have x1_2 := (HBx.out _ _ T1.out).cell (i := 2) rfl
  have x1_3 := (HBx.out _ _ T1.out).cell (i := 3) rfl
  have x1_4 := (HBx.out _ _ T1.out).cell (i := 4) rfl
  go_wp2_with fail
  refine (wtyp_any x.ty W0 _ F _ B bw v0 _ (HD1.out.keeps T1.out.keeps (T1.out.far HLo.out HF.out)) HF.out HB.out T1.out (by have := HN.out; simp only [List.length_append]; omega)).mono ?_
  rintro e w2 ⟨rfl, t2⟩
  have T2 := Lib.hid t2
  clear t2 x1_1 x1_2 x1_3 x1_4
  go_wp2_with fail
  go_end0
  exact ⟨rfl, by rw [HEq.out]; exact HEnd.out _ _ T2.out⟩
set_option maxRecDepth 100000 in
set_option maxHeartbeats 8000000 in
theorem wval_fn (W : World) (B bw : Nat) (v : Value) (hB : B ≤ bw) (hlo : ∀ i, Own2 bw v i → B ≤ i) (x : ValSig) : WFn 41 #[.pointer (some ⟨bw, 0, none⟩)] #[] argA ValSig.d valW W B bw v x := by
  have _ := hlo
  intro F cs w bs hR hF T hn
  obtain ⟨v2, v3, rfl, s0, s1, s2, s3⟩ := ValSig.rp.1 hR
  obtain ⟨A2, q2, rfl, -, -, -⟩ := s2.form
  obtain ⟨A3, q3, rfl, -, -, -⟩ := s3.form
  show Calls _ _ #[.pointer (some ⟨bw, 0, none⟩), .agg #[.string x.name, .int .i64 x.vars, .slice A2 x.preds.length q2, .int .i64 x.ty.kind, .string x.ty.name, .int .i64 x.ty.var, .slice A3 x.ty.args.length q3]] _ _
  obtain ⟨bt, hbt⟩ : ∃ bt, w.heap.size = bt := ⟨_, rfl⟩
  obtain ⟨W0, hW0⟩ : ∃ W0, w.alloc (.cells #[.string x.name, .int .i64 x.vars, .slice A2 x.preds.length q2, .int .i64 x.ty.kind, .string x.ty.name, .int .i64 x.ty.var, .slice A3 x.ty.args.length q3] 61) = W0 := ⟨_, rfl⟩
  have hkw : Keeps (fun _ => False) w W0 := by rw [← hW0]; exact (Keeps.refl _ _).alloc _
  have hbx0 : Blk W0 bt 61 [.string x.name, .int .i64 x.vars, .slice A2 x.preds.length q2, .int .i64 x.ty.kind, .string x.ty.name, .int .i64 x.ty.var, .slice A3 x.ty.args.length q3] := by rw [← hW0, ← hbt]; exact Blk.new w _ [_, _, _, _, _, _, _]
  obtain ⟨v0, t0, hend, hlt0, hlo0, hor0⟩ := T.rebase hkw hB
  have HD2 := Lib.hid ((s2.keeps T.keeps (T.far hlo hF)).keeps hkw (fun _ _ h => h))
  have HD3 := Lib.hid ((s3.keeps T.keeps (T.far hlo hF)).keeps hkw (fun _ _ h => h))
  have hnt : ¬ Own2 bw v0 bt := fun h => by have := hlt0 bt h; omega
  have HBx : Hid (∀ X bs', WrTo B bw v0 W0 bs' X → Blk X bt 61 [.string x.name, .int .i64 x.vars, .slice A2 x.preds.length q2, .int .i64 x.ty.kind, .string x.ty.name, .int .i64 x.ty.var, .slice A3 x.ty.args.length q3]) := fun X bs' hX => hbx0.keeps hX.keeps hnt
  have HEq : Hid (bs ++ valW x = bs ++ textW x.name ++ enc4 x.vars ++ eachW predW x.preds ++ typW x.ty) := by show _ = _; unfold valW; simp only [List.append_assoc]
  have HEnd := Lib.hid hend
  have HN : Hid (bs.length + (textW x.name).length + (enc4 x.vars).length + (eachW predW x.preds).length + (typW x.ty).length ≤ 4194304) := by unfold valW at hn; simp only [List.length_append] at hn; show _ ≤ _; omega
  have HF := Lib.hid hF
  have HB := Lib.hid hB
  have HLo := Lib.hid hlo0
  have HW0 := Lib.hid hW0
  have HBt := Lib.hid hbt
  have T0 := Lib.hid t0
  have eg2 : Enters Tryd.prog 46 := enters_of Tryd.func46 (by kernel_rfl) rfl
  have x0_0 := (HBx.out _ _ T0.out).cell (i := 0) rfl
  clear hR hF T hn hkw hbx0 t0 hend hlt0 hlo0 hor0 hnt hB hlo hW0 hbt s0 s1 s2 s3
  go_enter Tryd.func41, Tryd.ntmps41
  go_upto_region 1 with (fail)
  rw [HW0.out, HBt.out]
  go_wp2_with fail
  refine (wtext_to T0.out HB.out x.name (by have := HN.out; omega)).mono ?_
  rintro e w1 ⟨rfl, t1⟩
  have T1 := Lib.hid t1
  clear t1 x0_0
  have x1_1 := (HBx.out _ _ T1.out).cell (i := 1) rfl
  go_wp2_with fail
  refine (wnum_to T1.out HB.out x.vars (by have := HN.out; simp only [List.length_append, enc4_len] at *; omega)).mono ?_
  rintro e w2 ⟨rfl, t2⟩
  have T2 := Lib.hid t2
  clear t2 x1_1
  have x2_2 := (HBx.out _ _ T2.out).cell (i := 2) rfl
  go_wp2_with fail
  refine (eachPred_any W0 B bw v0 HLo.out 46 #[.pointer (some ⟨bw, 0, none⟩)] #[] eg2 predW x.preds (fun y _ => wpred_fn W0 B bw v0 HB.out HLo.out y) F _ _ _ HD2.out HF.out T2.out HB.out (by have := HN.out; simp only [List.length_append]; omega)).mono ?_
  rintro e w3 ⟨rfl, t3⟩
  have T3 := Lib.hid t3
  clear t3 x2_2
  have x3_3 := (HBx.out _ _ T3.out).cell (i := 3) rfl
  have x3_4 := (HBx.out _ _ T3.out).cell (i := 4) rfl
  have x3_5 := (HBx.out _ _ T3.out).cell (i := 5) rfl
  have x3_6 := (HBx.out _ _ T3.out).cell (i := 6) rfl
  go_wp2_with fail
  refine (wtyp_any x.ty W0 _ F _ B bw v0 _ (HD3.out.keeps T3.out.keeps (T3.out.far HLo.out HF.out)) HF.out HB.out T3.out (by have := HN.out; simp only [List.length_append]; omega)).mono ?_
  rintro e w4 ⟨rfl, t4⟩
  have T4 := Lib.hid t4
  clear t4 x3_3 x3_4 x3_5 x3_6
  go_wp2_with fail
  go_end0
  exact ⟨rfl, by rw [HEq.out]; exact HEnd.out _ _ T4.out⟩
set_option maxRecDepth 100000 in
set_option maxHeartbeats 8000000 in
theorem wcon_fn (W : World) (B bw : Nat) (v : Value) (hB : B ≤ bw) (hlo : ∀ i, Own2 bw v i → B ≤ i) (bx : Nat) (hbx : Blk W bx 41 [.pointer (some ⟨bw, 0, none⟩)]) (hnx : ¬ Own2 bw v bx) (x : ConSig) : WFn 83 #[] #[.pointer (some ⟨bx, 0, none⟩)] argA ConSig.d conW W B bw v x := by
  have _ := hlo
  intro F cs w bs hR hF T hn
  obtain ⟨v1, rfl, s0, s1⟩ := ConSig.rp.1 hR
  obtain ⟨A1, q1, rfl, -, -, -⟩ := s1.form
  show Calls _ _ #[.agg #[.string x.name, .slice A1 x.args.length q1], .pointer (some ⟨bx, 0, none⟩)] _ _
  obtain ⟨bt, hbt⟩ : ∃ bt, w.heap.size = bt := ⟨_, rfl⟩
  obtain ⟨W0, hW0⟩ : ∃ W0, w.alloc (.cells #[.string x.name, .slice A1 x.args.length q1] 56) = W0 := ⟨_, rfl⟩
  have hkw : Keeps (fun _ => False) w W0 := by rw [← hW0]; exact (Keeps.refl _ _).alloc _
  have hbx0 : Blk W0 bt 56 [.string x.name, .slice A1 x.args.length q1] := by rw [← hW0, ← hbt]; exact Blk.new w _ [_, _]
  obtain ⟨v0, t0, hend, hlt0, hlo0, hor0⟩ := T.rebase hkw hB
  have HD1 := Lib.hid ((s1.keeps T.keeps (T.far hlo hF)).keeps hkw (fun _ _ h => h))
  have hnt : ¬ Own2 bw v0 bt := fun h => by have := hlt0 bt h; omega
  have hpx : Blk W0 bx 41 [.pointer (some ⟨bw, 0, none⟩)] := (hbx.keeps T.keeps hnx).keeps hkw (fun h => h)
  have hnp : ¬ Own2 bw v0 bx := fun h => by
    rcases hor0 bx h with h1 | h1
    · exact hnx h1
    · have := hbx.lt; omega
  have HPx : Hid (∀ X bs', WrTo B bw v0 W0 bs' X → Blk X bx 41 [.pointer (some ⟨bw, 0, none⟩)]) := fun X bs' hX => hpx.keeps hX.keeps hnp
  have HBx : Hid (∀ X bs', WrTo B bw v0 W0 bs' X → Blk X bt 56 [.string x.name, .slice A1 x.args.length q1]) := fun X bs' hX => hbx0.keeps hX.keeps hnt
  have HEq : Hid (bs ++ conW x = bs ++ textW x.name ++ eachW typW x.args) := by show _ = _; unfold conW; simp only [List.append_assoc]
  have HEnd := Lib.hid hend
  have HN : Hid (bs.length + (textW x.name).length + (eachW typW x.args).length ≤ 4194304) := by unfold conW at hn; simp only [List.length_append] at hn; show _ ≤ _; omega
  have HF := Lib.hid hF
  have HB := Lib.hid hB
  have HLo := Lib.hid hlo0
  have HW0 := Lib.hid hW0
  have HBt := Lib.hid hbt
  have T0 := Lib.hid t0
  have eg1 : Enters Tryd.prog 44 := enters_of Tryd.func44 (by kernel_rfl) rfl
  have x0_0 := (HBx.out _ _ T0.out).cell (i := 0) rfl
  have p0 := (HPx.out _ _ T0.out).cell (i := 0) rfl
  clear hR hF T hn hkw hbx0 t0 hend hlt0 hlo0 hor0 hnt hB hlo hW0 hbt s0 s1 hbx hnx hpx hnp
  go_enter Tryd.func83, Tryd.ntmps83
  go_upto_region 1 with (fail)
  rw [HW0.out, HBt.out]
  go_wp2_with fail
  refine (wtext_to T0.out HB.out x.name (by have := HN.out; omega)).mono ?_
  rintro e w1 ⟨rfl, t1⟩
  have T1 := Lib.hid t1
  clear t1 x0_0 p0
  have x1_1 := (HBx.out _ _ T1.out).cell (i := 1) rfl
  have p1 := (HPx.out _ _ T1.out).cell (i := 0) rfl
  go_wp2_with fail
  refine (eachTy_any W0 B bw v0 HLo.out 44 #[.pointer (some ⟨bw, 0, none⟩)] #[] eg1 typW x.args (fun y _ => wtyp_fn W0 B bw v0 HB.out HLo.out y) F _ _ _ HD1.out HF.out T1.out HB.out (by have := HN.out; simp only [List.length_append]; omega)).mono ?_
  rintro e w2 ⟨rfl, t2⟩
  have T2 := Lib.hid t2
  clear t2 x1_1 p1
  go_wp2_with fail
  go_end0
  exact ⟨rfl, by rw [HEq.out]; exact HEnd.out _ _ T2.out⟩
set_option maxRecDepth 100000 in
set_option maxHeartbeats 8000000 in
theorem wdata_fn (W : World) (B bw : Nat) (v : Value) (hB : B ≤ bw) (hlo : ∀ i, Own2 bw v i → B ≤ i) (x : DataSig) : WFn 37 #[.pointer (some ⟨bw, 0, none⟩)] #[] argA DataSig.d dataW W B bw v x := by
  have _ := hlo
  intro F cs w bs hR hF T hn
  obtain ⟨v2, rfl, s0, s1, s2⟩ := DataSig.rp.1 hR
  obtain ⟨A2, q2, rfl, -, -, -⟩ := s2.form
  show Calls _ _ #[.pointer (some ⟨bw, 0, none⟩), .agg #[.string x.name, .int .i64 x.params, .slice A2 x.cons.length q2]] _ _
  obtain ⟨bp, hbp⟩ : ∃ bp, w.heap.size = bp := ⟨_, rfl⟩
  obtain ⟨bt, hbt⟩ : ∃ bt, w.heap.size + 1 = bt := ⟨_, rfl⟩
  obtain ⟨W0, hW0⟩ : ∃ W0, (w.alloc (.cells #[.pointer (some ⟨bw, 0, none⟩)] 41)).alloc (.cells #[.string x.name, .int .i64 x.params, .slice A2 x.cons.length q2] 54) = W0 := ⟨_, rfl⟩
  have hkw : Keeps (fun _ => False) w W0 := by rw [← hW0]; exact ((Keeps.refl _ _).alloc _).alloc _
  have hpx : Blk W0 bp 41 [.pointer (some ⟨bw, 0, none⟩)] := by rw [← hW0, ← hbp]; exact (Blk.new w _ [_]).alloc _
  have hbx0 : Blk W0 bt 54 [.string x.name, .int .i64 x.params, .slice A2 x.cons.length q2] := by rw [← hW0, ← hbt]; have := Blk.new (w.alloc (.cells #[.pointer (some ⟨bw, 0, none⟩)] 41)) 54 [.string x.name, .int .i64 x.params, .slice A2 x.cons.length q2]; simpa using this
  obtain ⟨v0, t0, hend, hlt0, hlo0, hor0⟩ := T.rebase hkw hB
  have HD2 := Lib.hid ((s2.keeps T.keeps (T.far hlo hF)).keeps hkw (fun _ _ h => h))
  have hnt : ¬ Own2 bw v0 bt := fun h => by have := hlt0 bt h; omega
  have hnp : ¬ Own2 bw v0 bp := fun h => by have := hlt0 bp h; omega
  have HPx : Hid (∀ X bs', WrTo B bw v0 W0 bs' X → Blk X bp 41 [.pointer (some ⟨bw, 0, none⟩)]) := fun X bs' hX => hpx.keeps hX.keeps hnp
  have HP0 := Lib.hid hpx
  have HNP := Lib.hid hnp
  have HBx : Hid (∀ X bs', WrTo B bw v0 W0 bs' X → Blk X bt 54 [.string x.name, .int .i64 x.params, .slice A2 x.cons.length q2]) := fun X bs' hX => hbx0.keeps hX.keeps hnt
  have HEq : Hid (bs ++ dataW x = bs ++ textW x.name ++ enc4 x.params ++ eachW conW x.cons) := by show _ = _; unfold dataW; simp only [List.append_assoc]
  have HEnd := Lib.hid hend
  have HN : Hid (bs.length + (textW x.name).length + (enc4 x.params).length + (eachW conW x.cons).length ≤ 4194304) := by unfold dataW at hn; simp only [List.length_append] at hn; show _ ≤ _; omega
  have HF := Lib.hid hF
  have HB := Lib.hid hB
  have HLo := Lib.hid hlo0
  have HW0 := Lib.hid hW0
  have HBt := Lib.hid hbt
  have HBp := Lib.hid hbp
  have T0 := Lib.hid t0
  have eg2 : Enters Tryd.prog 83 := enters_of Tryd.func83 (by kernel_rfl) rfl
  have x0_0 := (HBx.out _ _ T0.out).cell (i := 0) rfl
  have p0 := (HPx.out _ _ T0.out).cell (i := 0) rfl
  clear hR hF T hn hkw hbx0 t0 hend hlt0 hlo0 hor0 hnt hB hlo hW0 hbt s0 s1 s2 hbp hpx hnp
  go_enter Tryd.func37, Tryd.ntmps37
  go_upto_region 1 with (fail)
  rw [HW0.out, HBt.out, HBp.out]
  go_wp2_with fail
  refine (wtext_to T0.out HB.out x.name (by have := HN.out; omega)).mono ?_
  rintro e w1 ⟨rfl, t1⟩
  have T1 := Lib.hid t1
  clear t1 x0_0 p0
  have x1_1 := (HBx.out _ _ T1.out).cell (i := 1) rfl
  have p1 := (HPx.out _ _ T1.out).cell (i := 0) rfl
  go_wp2_with fail
  refine (wnum_to T1.out HB.out x.params (by have := HN.out; simp only [List.length_append, enc4_len] at *; omega)).mono ?_
  rintro e w2 ⟨rfl, t2⟩
  have T2 := Lib.hid t2
  clear t2 x1_1 p1
  have x2_2 := (HBx.out _ _ T2.out).cell (i := 2) rfl
  have p2 := (HPx.out _ _ T2.out).cell (i := 0) rfl
  go_wp2_with fail
  refine (eachConSig_any W0 B bw v0 HLo.out 83 #[] #[.pointer (some ⟨bp, 0, none⟩)] eg2 conW x.cons (fun y _ => wcon_fn W0 B bw v0 HB.out HLo.out bp HP0.out HNP.out y) F _ _ _ HD2.out HF.out T2.out HB.out (by have := HN.out; simp only [List.length_append]; omega)).mono ?_
  rintro e w3 ⟨rfl, t3⟩
  have T3 := Lib.hid t3
  clear t3 x2_2 p2
  go_wp2_with fail
  go_end0
  exact ⟨rfl, by rw [HEq.out]; exact HEnd.out _ _ T3.out⟩
set_option maxRecDepth 100000 in
set_option maxHeartbeats 8000000 in
theorem wfix_fn (W : World) (B bw : Nat) (v : Value) (hB : B ≤ bw) (hlo : ∀ i, Own2 bw v i → B ≤ i) (bx : Nat) (hbx : Blk W bx 41 [.pointer (some ⟨bw, 0, none⟩)]) (hnx : ¬ Own2 bw v bx) (x : FixSig) : WFn 34 #[] #[.pointer (some ⟨bx, 0, none⟩)] argA FixSig.d fixW W B bw v x := by
  have _ := hlo
  intro F cs w bs hR hF T hn
  obtain ⟨rfl, s0, s1, s2⟩ := FixSig.rp.1 hR
  show Calls _ _ #[.agg #[.string x.op, .int .i64 x.side, .int .i64 x.level], .pointer (some ⟨bx, 0, none⟩)] _ _
  obtain ⟨bt, hbt⟩ : ∃ bt, w.heap.size = bt := ⟨_, rfl⟩
  obtain ⟨W0, hW0⟩ : ∃ W0, w.alloc (.cells #[.string x.op, .int .i64 x.side, .int .i64 x.level] 51) = W0 := ⟨_, rfl⟩
  have hkw : Keeps (fun _ => False) w W0 := by rw [← hW0]; exact (Keeps.refl _ _).alloc _
  have hbx0 : Blk W0 bt 51 [.string x.op, .int .i64 x.side, .int .i64 x.level] := by rw [← hW0, ← hbt]; exact Blk.new w _ [_, _, _]
  obtain ⟨v0, t0, hend, hlt0, hlo0, hor0⟩ := T.rebase hkw hB
  have hnt : ¬ Own2 bw v0 bt := fun h => by have := hlt0 bt h; omega
  have hpx : Blk W0 bx 41 [.pointer (some ⟨bw, 0, none⟩)] := (hbx.keeps T.keeps hnx).keeps hkw (fun h => h)
  have hnp : ¬ Own2 bw v0 bx := fun h => by
    rcases hor0 bx h with h1 | h1
    · exact hnx h1
    · have := hbx.lt; omega
  have HPx : Hid (∀ X bs', WrTo B bw v0 W0 bs' X → Blk X bx 41 [.pointer (some ⟨bw, 0, none⟩)]) := fun X bs' hX => hpx.keeps hX.keeps hnp
  have HBx : Hid (∀ X bs', WrTo B bw v0 W0 bs' X → Blk X bt 51 [.string x.op, .int .i64 x.side, .int .i64 x.level]) := fun X bs' hX => hbx0.keeps hX.keeps hnt
  have HEq : Hid (bs ++ fixW x = bs ++ textW x.op ++ enc4 x.side ++ enc4 x.level) := by show _ = _; unfold fixW; simp only [List.append_assoc]
  have HEnd := Lib.hid hend
  have HN : Hid (bs.length + (textW x.op).length + (enc4 x.side).length + (enc4 x.level).length ≤ 4194304) := by unfold fixW at hn; simp only [List.length_append] at hn; show _ ≤ _; omega
  have HF := Lib.hid hF
  have HB := Lib.hid hB
  have HLo := Lib.hid hlo0
  have HW0 := Lib.hid hW0
  have HBt := Lib.hid hbt
  have T0 := Lib.hid t0
  have x0_0 := (HBx.out _ _ T0.out).cell (i := 0) rfl
  have p0 := (HPx.out _ _ T0.out).cell (i := 0) rfl
  clear hR hF T hn hkw hbx0 t0 hend hlt0 hlo0 hor0 hnt hB hlo hW0 hbt s0 s1 s2 hbx hnx hpx hnp
  go_enter Tryd.func34, Tryd.ntmps34
  go_upto_region 1 with (fail)
  rw [HW0.out, HBt.out]
  go_wp2_with fail
  refine (wtext_to T0.out HB.out x.op (by have := HN.out; omega)).mono ?_
  rintro e w1 ⟨rfl, t1⟩
  have T1 := Lib.hid t1
  clear t1 x0_0 p0
  have x1_1 := (HBx.out _ _ T1.out).cell (i := 1) rfl
  have p1 := (HPx.out _ _ T1.out).cell (i := 0) rfl
  go_wp2_with fail
  refine (wnum_to T1.out HB.out x.side (by have := HN.out; simp only [List.length_append, enc4_len] at *; omega)).mono ?_
  rintro e w2 ⟨rfl, t2⟩
  have T2 := Lib.hid t2
  clear t2 x1_1 p1
  have x2_2 := (HBx.out _ _ T2.out).cell (i := 2) rfl
  have p2 := (HPx.out _ _ T2.out).cell (i := 0) rfl
  go_wp2_with fail
  refine (wnum_to T2.out HB.out x.level (by have := HN.out; simp only [List.length_append, enc4_len] at *; omega)).mono ?_
  rintro e w3 ⟨rfl, t3⟩
  have T3 := Lib.hid t3
  clear t3 x2_2 p2
  go_wp2_with fail
  go_end0
  exact ⟨rfl, by rw [HEq.out]; exact HEnd.out _ _ T3.out⟩
set_option maxRecDepth 100000 in
set_option maxHeartbeats 8000000 in
theorem wclass_fn (W : World) (B bw : Nat) (v : Value) (hB : B ≤ bw) (hlo : ∀ i, Own2 bw v i → B ≤ i) (bx : Nat) (hbx : Blk W bx 41 [.pointer (some ⟨bw, 0, none⟩)]) (hnx : ¬ Own2 bw v bx) (x : ClassSig) : WFn 39 #[] #[.pointer (some ⟨bx, 0, none⟩)] argA ClassSig.d classW W B bw v x := by
  have _ := hlo
  intro F cs w bs hR hF T hn
  obtain ⟨v1, v2, rfl, s0, s1, s2⟩ := ClassSig.rp.1 hR
  obtain ⟨A1, q1, rfl, -, -, -⟩ := s1.form
  obtain ⟨A2, q2, rfl, -, -, -⟩ := s2.form
  show Calls _ _ #[.agg #[.string x.name, .slice A1 x.super.length q1, .slice A2 x.ops.length q2], .pointer (some ⟨bx, 0, none⟩)] _ _
  obtain ⟨bt, hbt⟩ : ∃ bt, w.heap.size = bt := ⟨_, rfl⟩
  obtain ⟨W0, hW0⟩ : ∃ W0, w.alloc (.cells #[.string x.name, .slice A1 x.super.length q1, .slice A2 x.ops.length q2] 74) = W0 := ⟨_, rfl⟩
  have hkw : Keeps (fun _ => False) w W0 := by rw [← hW0]; exact (Keeps.refl _ _).alloc _
  have hbx0 : Blk W0 bt 74 [.string x.name, .slice A1 x.super.length q1, .slice A2 x.ops.length q2] := by rw [← hW0, ← hbt]; exact Blk.new w _ [_, _, _]
  obtain ⟨v0, t0, hend, hlt0, hlo0, hor0⟩ := T.rebase hkw hB
  have HD1 := Lib.hid ((s1.keeps T.keeps (T.far hlo hF)).keeps hkw (fun _ _ h => h))
  have HD2 := Lib.hid ((s2.keeps T.keeps (T.far hlo hF)).keeps hkw (fun _ _ h => h))
  have hnt : ¬ Own2 bw v0 bt := fun h => by have := hlt0 bt h; omega
  have hpx : Blk W0 bx 41 [.pointer (some ⟨bw, 0, none⟩)] := (hbx.keeps T.keeps hnx).keeps hkw (fun h => h)
  have hnp : ¬ Own2 bw v0 bx := fun h => by
    rcases hor0 bx h with h1 | h1
    · exact hnx h1
    · have := hbx.lt; omega
  have HPx : Hid (∀ X bs', WrTo B bw v0 W0 bs' X → Blk X bx 41 [.pointer (some ⟨bw, 0, none⟩)]) := fun X bs' hX => hpx.keeps hX.keeps hnp
  have HBx : Hid (∀ X bs', WrTo B bw v0 W0 bs' X → Blk X bt 74 [.string x.name, .slice A1 x.super.length q1, .slice A2 x.ops.length q2]) := fun X bs' hX => hbx0.keeps hX.keeps hnt
  have HEq : Hid (bs ++ classW x = bs ++ textW x.name ++ eachW textW x.super ++ eachW valW x.ops) := by show _ = _; unfold classW; simp only [List.append_assoc]
  have HEnd := Lib.hid hend
  have HN : Hid (bs.length + (textW x.name).length + (eachW textW x.super).length + (eachW valW x.ops).length ≤ 4194304) := by unfold classW at hn; simp only [List.length_append] at hn; show _ ≤ _; omega
  have HF := Lib.hid hF
  have HB := Lib.hid hB
  have HLo := Lib.hid hlo0
  have HW0 := Lib.hid hW0
  have HBt := Lib.hid hbt
  have T0 := Lib.hid t0
  have eg1 : Enters Tryd.prog 31 := enters_of Tryd.func31 (by kernel_rfl) rfl
  have eg2 : Enters Tryd.prog 41 := enters_of Tryd.func41 (by kernel_rfl) rfl
  have x0_0 := (HBx.out _ _ T0.out).cell (i := 0) rfl
  have p0 := (HPx.out _ _ T0.out).cell (i := 0) rfl
  clear hR hF T hn hkw hbx0 t0 hend hlt0 hlo0 hor0 hnt hB hlo hW0 hbt s0 s1 s2 hbx hnx hpx hnp
  go_enter Tryd.func39, Tryd.ntmps39
  go_upto_region 1 with (fail)
  rw [HW0.out, HBt.out]
  go_wp2_with fail
  refine (wtext_to T0.out HB.out x.name (by have := HN.out; omega)).mono ?_
  rintro e w1 ⟨rfl, t1⟩
  have T1 := Lib.hid t1
  clear t1 x0_0 p0
  have x1_1 := (HBx.out _ _ T1.out).cell (i := 1) rfl
  have p1 := (HPx.out _ _ T1.out).cell (i := 0) rfl
  go_wp2_with fail
  refine (eachStr_any W0 B bw v0 HLo.out 31 #[.pointer (some ⟨bw, 0, none⟩)] #[] eg1 textW x.super (fun y _ => wtext_fn W0 B bw v0 HB.out y) F _ _ _ HD1.out HF.out T1.out HB.out (by have := HN.out; simp only [List.length_append]; omega)).mono ?_
  rintro e w2 ⟨rfl, t2⟩
  have T2 := Lib.hid t2
  clear t2 x1_1 p1
  have x2_2 := (HBx.out _ _ T2.out).cell (i := 2) rfl
  have p2 := (HPx.out _ _ T2.out).cell (i := 0) rfl
  go_wp2_with fail
  refine (eachValSig_any W0 B bw v0 HLo.out 41 #[.pointer (some ⟨bw, 0, none⟩)] #[] eg2 valW x.ops (fun y _ => wval_fn W0 B bw v0 HB.out HLo.out y) F _ _ _ HD2.out HF.out T2.out HB.out (by have := HN.out; simp only [List.length_append]; omega)).mono ?_
  rintro e w3 ⟨rfl, t3⟩
  have T3 := Lib.hid t3
  clear t3 x2_2 p2
  go_wp2_with fail
  go_end0
  exact ⟨rfl, by rw [HEq.out]; exact HEnd.out _ _ T3.out⟩
set_option maxRecDepth 100000 in
set_option maxHeartbeats 8000000 in
theorem winst_fn (W : World) (B bw : Nat) (v : Value) (hB : B ≤ bw) (hlo : ∀ i, Own2 bw v i → B ≤ i) (bx : Nat) (hbx : Blk W bx 41 [.pointer (some ⟨bw, 0, none⟩)]) (hnx : ¬ Own2 bw v bx) (x : InstSig) : WFn 43 #[] #[.pointer (some ⟨bx, 0, none⟩)] argA InstSig.d instW W B bw v x := by
  have _ := hlo
  intro F cs w bs hR hF T hn
  obtain ⟨v1, v2, rfl, s0, s1, s2⟩ := InstSig.rp.1 hR
  obtain ⟨A1, q1, rfl, -, -, -⟩ := s1.form
  obtain ⟨A2, q2, rfl, -, -, -⟩ := s2.form
  show Calls _ _ #[.agg #[.string x.cls, .int .i64 x.head.kind, .string x.head.name, .int .i64 x.head.var, .slice A1 x.head.args.length q1, .slice A2 x.preds.length q2], .pointer (some ⟨bx, 0, none⟩)] _ _
  obtain ⟨bt, hbt⟩ : ∃ bt, w.heap.size = bt := ⟨_, rfl⟩
  obtain ⟨W0, hW0⟩ : ∃ W0, w.alloc (.cells #[.string x.cls, .int .i64 x.head.kind, .string x.head.name, .int .i64 x.head.var, .slice A1 x.head.args.length q1, .slice A2 x.preds.length q2] 78) = W0 := ⟨_, rfl⟩
  have hkw : Keeps (fun _ => False) w W0 := by rw [← hW0]; exact (Keeps.refl _ _).alloc _
  have hbx0 : Blk W0 bt 78 [.string x.cls, .int .i64 x.head.kind, .string x.head.name, .int .i64 x.head.var, .slice A1 x.head.args.length q1, .slice A2 x.preds.length q2] := by rw [← hW0, ← hbt]; exact Blk.new w _ [_, _, _, _, _, _]
  obtain ⟨v0, t0, hend, hlt0, hlo0, hor0⟩ := T.rebase hkw hB
  have HD1 := Lib.hid ((s1.keeps T.keeps (T.far hlo hF)).keeps hkw (fun _ _ h => h))
  have HD2 := Lib.hid ((s2.keeps T.keeps (T.far hlo hF)).keeps hkw (fun _ _ h => h))
  have hnt : ¬ Own2 bw v0 bt := fun h => by have := hlt0 bt h; omega
  have hpx : Blk W0 bx 41 [.pointer (some ⟨bw, 0, none⟩)] := (hbx.keeps T.keeps hnx).keeps hkw (fun h => h)
  have hnp : ¬ Own2 bw v0 bx := fun h => by
    rcases hor0 bx h with h1 | h1
    · exact hnx h1
    · have := hbx.lt; omega
  have HPx : Hid (∀ X bs', WrTo B bw v0 W0 bs' X → Blk X bx 41 [.pointer (some ⟨bw, 0, none⟩)]) := fun X bs' hX => hpx.keeps hX.keeps hnp
  have HBx : Hid (∀ X bs', WrTo B bw v0 W0 bs' X → Blk X bt 78 [.string x.cls, .int .i64 x.head.kind, .string x.head.name, .int .i64 x.head.var, .slice A1 x.head.args.length q1, .slice A2 x.preds.length q2]) := fun X bs' hX => hbx0.keeps hX.keeps hnt
  have HEq : Hid (bs ++ instW x = bs ++ textW x.cls ++ typW x.head ++ eachW predW x.preds) := by show _ = _; unfold instW; simp only [List.append_assoc]
  have HEnd := Lib.hid hend
  have HN : Hid (bs.length + (textW x.cls).length + (typW x.head).length + (eachW predW x.preds).length ≤ 4194304) := by unfold instW at hn; simp only [List.length_append] at hn; show _ ≤ _; omega
  have HF := Lib.hid hF
  have HB := Lib.hid hB
  have HLo := Lib.hid hlo0
  have HW0 := Lib.hid hW0
  have HBt := Lib.hid hbt
  have T0 := Lib.hid t0
  have eg2 : Enters Tryd.prog 46 := enters_of Tryd.func46 (by kernel_rfl) rfl
  have x0_0 := (HBx.out _ _ T0.out).cell (i := 0) rfl
  have p0 := (HPx.out _ _ T0.out).cell (i := 0) rfl
  clear hR hF T hn hkw hbx0 t0 hend hlt0 hlo0 hor0 hnt hB hlo hW0 hbt s0 s1 s2 hbx hnx hpx hnp
  go_enter Tryd.func43, Tryd.ntmps43
  go_upto_region 1 with (fail)
  rw [HW0.out, HBt.out]
  go_wp2_with fail
  refine (wtext_to T0.out HB.out x.cls (by have := HN.out; omega)).mono ?_
  rintro e w1 ⟨rfl, t1⟩
  have T1 := Lib.hid t1
  clear t1 x0_0 p0
  have x1_1 := (HBx.out _ _ T1.out).cell (i := 1) rfl
  have x1_2 := (HBx.out _ _ T1.out).cell (i := 2) rfl
  have x1_3 := (HBx.out _ _ T1.out).cell (i := 3) rfl
  have x1_4 := (HBx.out _ _ T1.out).cell (i := 4) rfl
  have p1 := (HPx.out _ _ T1.out).cell (i := 0) rfl
  go_wp2_with fail
  refine (wtyp_any x.head W0 _ F _ B bw v0 _ (HD1.out.keeps T1.out.keeps (T1.out.far HLo.out HF.out)) HF.out HB.out T1.out (by have := HN.out; simp only [List.length_append]; omega)).mono ?_
  rintro e w2 ⟨rfl, t2⟩
  have T2 := Lib.hid t2
  clear t2 x1_1 x1_2 x1_3 x1_4 p1
  have x2_5 := (HBx.out _ _ T2.out).cell (i := 5) rfl
  have p2 := (HPx.out _ _ T2.out).cell (i := 0) rfl
  go_wp2_with fail
  refine (eachPred_any W0 B bw v0 HLo.out 46 #[.pointer (some ⟨bw, 0, none⟩)] #[] eg2 predW x.preds (fun y _ => wpred_fn W0 B bw v0 HB.out HLo.out y) F _ _ _ HD2.out HF.out T2.out HB.out (by have := HN.out; simp only [List.length_append]; omega)).mono ?_
  rintro e w3 ⟨rfl, t3⟩
  have T3 := Lib.hid t3
  clear t3 x2_5 p2
  go_wp2_with fail
  go_end0
  exact ⟨rfl, by rw [HEq.out]; exact HEnd.out _ _ T3.out⟩
set_option maxRecDepth 100000 in
set_option maxHeartbeats 8000000 in
theorem wop_fn (W : World) (B bw : Nat) (v : Value) (hB : B ≤ bw) (hlo : ∀ i, Own2 bw v i → B ≤ i) (bx : Nat) (hbx : Blk W bx 41 [.pointer (some ⟨bw, 0, none⟩)]) (hnx : ¬ Own2 bw v bx) (x : OpSig) : WFn 48 #[] #[.pointer (some ⟨bx, 0, none⟩)] argA OpSig.d opW W B bw v x := by
  have _ := hlo
  intro F cs w bs hR hF T hn
  obtain ⟨v2, v3, rfl, s0, s1, s2, s3⟩ := OpSig.rp.1 hR
  obtain ⟨A2, q2, rfl, -, -, -⟩ := s2.form
  obtain ⟨A3, q3, rfl, -, -, -⟩ := s3.form
  show Calls _ _ #[.agg #[.string x.name, .string x.effect, .int .i64 x.arg.kind, .string x.arg.name, .int .i64 x.arg.var, .slice A2 x.arg.args.length q2, .int .i64 x.res.kind, .string x.res.name, .int .i64 x.res.var, .slice A3 x.res.args.length q3], .pointer (some ⟨bx, 0, none⟩)] _ _
  obtain ⟨bt, hbt⟩ : ∃ bt, w.heap.size = bt := ⟨_, rfl⟩
  obtain ⟨W0, hW0⟩ : ∃ W0, w.alloc (.cells #[.string x.name, .string x.effect, .int .i64 x.arg.kind, .string x.arg.name, .int .i64 x.arg.var, .slice A2 x.arg.args.length q2, .int .i64 x.res.kind, .string x.res.name, .int .i64 x.res.var, .slice A3 x.res.args.length q3] 82) = W0 := ⟨_, rfl⟩
  have hkw : Keeps (fun _ => False) w W0 := by rw [← hW0]; exact (Keeps.refl _ _).alloc _
  have hbx0 : Blk W0 bt 82 [.string x.name, .string x.effect, .int .i64 x.arg.kind, .string x.arg.name, .int .i64 x.arg.var, .slice A2 x.arg.args.length q2, .int .i64 x.res.kind, .string x.res.name, .int .i64 x.res.var, .slice A3 x.res.args.length q3] := by rw [← hW0, ← hbt]; exact Blk.new w _ [_, _, _, _, _, _, _, _, _, _]
  obtain ⟨v0, t0, hend, hlt0, hlo0, hor0⟩ := T.rebase hkw hB
  have HD2 := Lib.hid ((s2.keeps T.keeps (T.far hlo hF)).keeps hkw (fun _ _ h => h))
  have HD3 := Lib.hid ((s3.keeps T.keeps (T.far hlo hF)).keeps hkw (fun _ _ h => h))
  have hnt : ¬ Own2 bw v0 bt := fun h => by have := hlt0 bt h; omega
  have hpx : Blk W0 bx 41 [.pointer (some ⟨bw, 0, none⟩)] := (hbx.keeps T.keeps hnx).keeps hkw (fun h => h)
  have hnp : ¬ Own2 bw v0 bx := fun h => by
    rcases hor0 bx h with h1 | h1
    · exact hnx h1
    · have := hbx.lt; omega
  have HPx : Hid (∀ X bs', WrTo B bw v0 W0 bs' X → Blk X bx 41 [.pointer (some ⟨bw, 0, none⟩)]) := fun X bs' hX => hpx.keeps hX.keeps hnp
  have HBx : Hid (∀ X bs', WrTo B bw v0 W0 bs' X → Blk X bt 82 [.string x.name, .string x.effect, .int .i64 x.arg.kind, .string x.arg.name, .int .i64 x.arg.var, .slice A2 x.arg.args.length q2, .int .i64 x.res.kind, .string x.res.name, .int .i64 x.res.var, .slice A3 x.res.args.length q3]) := fun X bs' hX => hbx0.keeps hX.keeps hnt
  have HEq : Hid (bs ++ opW x = bs ++ textW x.name ++ textW x.effect ++ typW x.arg ++ typW x.res) := by show _ = _; unfold opW; simp only [List.append_assoc]
  have HEnd := Lib.hid hend
  have HN : Hid (bs.length + (textW x.name).length + (textW x.effect).length + (typW x.arg).length + (typW x.res).length ≤ 4194304) := by unfold opW at hn; simp only [List.length_append] at hn; show _ ≤ _; omega
  have HF := Lib.hid hF
  have HB := Lib.hid hB
  have HLo := Lib.hid hlo0
  have HW0 := Lib.hid hW0
  have HBt := Lib.hid hbt
  have T0 := Lib.hid t0
  have x0_0 := (HBx.out _ _ T0.out).cell (i := 0) rfl
  have p0 := (HPx.out _ _ T0.out).cell (i := 0) rfl
  clear hR hF T hn hkw hbx0 t0 hend hlt0 hlo0 hor0 hnt hB hlo hW0 hbt s0 s1 s2 s3 hbx hnx hpx hnp
  go_enter Tryd.func48, Tryd.ntmps48
  go_upto_region 1 with (fail)
  rw [HW0.out, HBt.out]
  go_wp2_with fail
  refine (wtext_to T0.out HB.out x.name (by have := HN.out; omega)).mono ?_
  rintro e w1 ⟨rfl, t1⟩
  have T1 := Lib.hid t1
  clear t1 x0_0 p0
  have x1_1 := (HBx.out _ _ T1.out).cell (i := 1) rfl
  have p1 := (HPx.out _ _ T1.out).cell (i := 0) rfl
  go_wp2_with fail
  refine (wtext_to T1.out HB.out x.effect (by have := HN.out; simp only [List.length_append]; omega)).mono ?_
  rintro e w2 ⟨rfl, t2⟩
  have T2 := Lib.hid t2
  clear t2 x1_1 p1
  have x2_2 := (HBx.out _ _ T2.out).cell (i := 2) rfl
  have x2_3 := (HBx.out _ _ T2.out).cell (i := 3) rfl
  have x2_4 := (HBx.out _ _ T2.out).cell (i := 4) rfl
  have x2_5 := (HBx.out _ _ T2.out).cell (i := 5) rfl
  have p2 := (HPx.out _ _ T2.out).cell (i := 0) rfl
  go_wp2_with fail
  refine (wtyp_any x.arg W0 _ F _ B bw v0 _ (HD2.out.keeps T2.out.keeps (T2.out.far HLo.out HF.out)) HF.out HB.out T2.out (by have := HN.out; simp only [List.length_append]; omega)).mono ?_
  rintro e w3 ⟨rfl, t3⟩
  have T3 := Lib.hid t3
  clear t3 x2_2 x2_3 x2_4 x2_5 p2
  have x3_6 := (HBx.out _ _ T3.out).cell (i := 6) rfl
  have x3_7 := (HBx.out _ _ T3.out).cell (i := 7) rfl
  have x3_8 := (HBx.out _ _ T3.out).cell (i := 8) rfl
  have x3_9 := (HBx.out _ _ T3.out).cell (i := 9) rfl
  have p3 := (HPx.out _ _ T3.out).cell (i := 0) rfl
  go_wp2_with fail
  refine (wtyp_any x.res W0 _ F _ B bw v0 _ (HD3.out.keeps T3.out.keeps (T3.out.far HLo.out HF.out)) HF.out HB.out T3.out (by have := HN.out; simp only [List.length_append]; omega)).mono ?_
  rintro e w4 ⟨rfl, t4⟩
  have T4 := Lib.hid t4
  clear t4 x3_6 x3_7 x3_8 x3_9 p3
  go_wp2_with fail
  go_end0
  exact ⟨rfl, by rw [HEq.out]; exact HEnd.out _ _ T4.out⟩
set_option maxRecDepth 100000 in
set_option maxHeartbeats 8000000 in
theorem wface_fn (W : World) (B bw : Nat) (v : Value) (hB : B ≤ bw) (hlo : ∀ i, Own2 bw v i → B ≤ i) (x : Iface) : WFn 9 #[.pointer (some ⟨bw, 0, none⟩)] #[] argA Iface.d faceW W B bw v x := by
  have _ := hlo
  intro F cs w bs hR hF T hn
  obtain ⟨v1, v2, v3, v4, v5, v6, v7, rfl, s0, s1, s2, s3, s4, s5, s6, s7⟩ := Iface.rp.1 hR
  obtain ⟨A1, q1, rfl, -, -, -⟩ := s1.form
  obtain ⟨A2, q2, rfl, -, -, -⟩ := s2.form
  obtain ⟨A3, q3, rfl, -, -, -⟩ := s3.form
  obtain ⟨A4, q4, rfl, -, -, -⟩ := s4.form
  obtain ⟨A5, q5, rfl, -, -, -⟩ := s5.form
  obtain ⟨A6, q6, rfl, -, -, -⟩ := s6.form
  obtain ⟨A7, q7, rfl, -, -, -⟩ := s7.form
  show Calls _ _ #[.pointer (some ⟨bw, 0, none⟩), .agg #[.string x.module, .slice A1 x.imports.length q1, .slice A2 x.fixes.length q2, .slice A3 x.datas.length q3, .slice A4 x.classes.length q4, .slice A5 x.insts.length q5, .slice A6 x.ops.length q6, .slice A7 x.vals.length q7]] _ _
  obtain ⟨bp, hbp⟩ : ∃ bp, w.heap.size = bp := ⟨_, rfl⟩
  obtain ⟨bt, hbt⟩ : ∃ bt, w.heap.size + 1 = bt := ⟨_, rfl⟩
  obtain ⟨W0, hW0⟩ : ∃ W0, (w.alloc (.cells #[.pointer (some ⟨bw, 0, none⟩)] 41)).alloc (.cells #[.string x.module, .slice A1 x.imports.length q1, .slice A2 x.fixes.length q2, .slice A3 x.datas.length q3, .slice A4 x.classes.length q4, .slice A5 x.insts.length q5, .slice A6 x.ops.length q6, .slice A7 x.vals.length q7] 33) = W0 := ⟨_, rfl⟩
  have hkw : Keeps (fun _ => False) w W0 := by rw [← hW0]; exact ((Keeps.refl _ _).alloc _).alloc _
  have hpx : Blk W0 bp 41 [.pointer (some ⟨bw, 0, none⟩)] := by rw [← hW0, ← hbp]; exact (Blk.new w _ [_]).alloc _
  have hbx0 : Blk W0 bt 33 [.string x.module, .slice A1 x.imports.length q1, .slice A2 x.fixes.length q2, .slice A3 x.datas.length q3, .slice A4 x.classes.length q4, .slice A5 x.insts.length q5, .slice A6 x.ops.length q6, .slice A7 x.vals.length q7] := by rw [← hW0, ← hbt]; have := Blk.new (w.alloc (.cells #[.pointer (some ⟨bw, 0, none⟩)] 41)) 33 [.string x.module, .slice A1 x.imports.length q1, .slice A2 x.fixes.length q2, .slice A3 x.datas.length q3, .slice A4 x.classes.length q4, .slice A5 x.insts.length q5, .slice A6 x.ops.length q6, .slice A7 x.vals.length q7]; simpa using this
  obtain ⟨v0, t0, hend, hlt0, hlo0, hor0⟩ := T.rebase hkw hB
  have HD1 := Lib.hid ((s1.keeps T.keeps (T.far hlo hF)).keeps hkw (fun _ _ h => h))
  have HD2 := Lib.hid ((s2.keeps T.keeps (T.far hlo hF)).keeps hkw (fun _ _ h => h))
  have HD3 := Lib.hid ((s3.keeps T.keeps (T.far hlo hF)).keeps hkw (fun _ _ h => h))
  have HD4 := Lib.hid ((s4.keeps T.keeps (T.far hlo hF)).keeps hkw (fun _ _ h => h))
  have HD5 := Lib.hid ((s5.keeps T.keeps (T.far hlo hF)).keeps hkw (fun _ _ h => h))
  have HD6 := Lib.hid ((s6.keeps T.keeps (T.far hlo hF)).keeps hkw (fun _ _ h => h))
  have HD7 := Lib.hid ((s7.keeps T.keeps (T.far hlo hF)).keeps hkw (fun _ _ h => h))
  have hnt : ¬ Own2 bw v0 bt := fun h => by have := hlt0 bt h; omega
  have hnp : ¬ Own2 bw v0 bp := fun h => by have := hlt0 bp h; omega
  have HPx : Hid (∀ X bs', WrTo B bw v0 W0 bs' X → Blk X bp 41 [.pointer (some ⟨bw, 0, none⟩)]) := fun X bs' hX => hpx.keeps hX.keeps hnp
  have HP0 := Lib.hid hpx
  have HNP := Lib.hid hnp
  have HBx : Hid (∀ X bs', WrTo B bw v0 W0 bs' X → Blk X bt 33 [.string x.module, .slice A1 x.imports.length q1, .slice A2 x.fixes.length q2, .slice A3 x.datas.length q3, .slice A4 x.classes.length q4, .slice A5 x.insts.length q5, .slice A6 x.ops.length q6, .slice A7 x.vals.length q7]) := fun X bs' hX => hbx0.keeps hX.keeps hnt
  have HEq : Hid (bs ++ faceW x = bs ++ textW x.module ++ eachW textW x.imports ++ eachW fixW x.fixes ++ eachW dataW x.datas ++ eachW classW x.classes ++ eachW instW x.insts ++ eachW opW x.ops ++ eachW valW x.vals) := by show _ = _; unfold faceW; simp only [List.append_assoc]
  have HEnd := Lib.hid hend
  have HN : Hid (bs.length + (textW x.module).length + (eachW textW x.imports).length + (eachW fixW x.fixes).length + (eachW dataW x.datas).length + (eachW classW x.classes).length + (eachW instW x.insts).length + (eachW opW x.ops).length + (eachW valW x.vals).length ≤ 4194304) := by unfold faceW at hn; simp only [List.length_append] at hn; show _ ≤ _; omega
  have HF := Lib.hid hF
  have HB := Lib.hid hB
  have HLo := Lib.hid hlo0
  have HW0 := Lib.hid hW0
  have HBt := Lib.hid hbt
  have HBp := Lib.hid hbp
  have T0 := Lib.hid t0
  have eg1 : Enters Tryd.prog 31 := enters_of Tryd.func31 (by kernel_rfl) rfl
  have eg2 : Enters Tryd.prog 34 := enters_of Tryd.func34 (by kernel_rfl) rfl
  have eg3 : Enters Tryd.prog 37 := enters_of Tryd.func37 (by kernel_rfl) rfl
  have eg4 : Enters Tryd.prog 39 := enters_of Tryd.func39 (by kernel_rfl) rfl
  have eg5 : Enters Tryd.prog 43 := enters_of Tryd.func43 (by kernel_rfl) rfl
  have eg6 : Enters Tryd.prog 48 := enters_of Tryd.func48 (by kernel_rfl) rfl
  have eg7 : Enters Tryd.prog 41 := enters_of Tryd.func41 (by kernel_rfl) rfl
  have x0_0 := (HBx.out _ _ T0.out).cell (i := 0) rfl
  have p0 := (HPx.out _ _ T0.out).cell (i := 0) rfl
  clear hR hF T hn hkw hbx0 t0 hend hlt0 hlo0 hor0 hnt hB hlo hW0 hbt s0 s1 s2 s3 s4 s5 s6 s7 hbp hpx hnp
  go_enter Tryd.func9, Tryd.ntmps9
  go_upto_region 1 with (fail)
  rw [HW0.out, HBt.out, HBp.out]
  go_wp2_with fail
  refine (wtext_to T0.out HB.out x.module (by have := HN.out; omega)).mono ?_
  rintro e w1 ⟨rfl, t1⟩
  have T1 := Lib.hid t1
  clear t1 x0_0 p0
  have x1_1 := (HBx.out _ _ T1.out).cell (i := 1) rfl
  have p1 := (HPx.out _ _ T1.out).cell (i := 0) rfl
  go_wp2_with fail
  refine (eachStr_any W0 B bw v0 HLo.out 31 #[.pointer (some ⟨bw, 0, none⟩)] #[] eg1 textW x.imports (fun y _ => wtext_fn W0 B bw v0 HB.out y) F _ _ _ HD1.out HF.out T1.out HB.out (by have := HN.out; simp only [List.length_append]; omega)).mono ?_
  rintro e w2 ⟨rfl, t2⟩
  have T2 := Lib.hid t2
  clear t2 x1_1 p1
  have x2_2 := (HBx.out _ _ T2.out).cell (i := 2) rfl
  have p2 := (HPx.out _ _ T2.out).cell (i := 0) rfl
  go_wp2_with fail
  refine (eachFixSig_any W0 B bw v0 HLo.out 34 #[] #[.pointer (some ⟨bp, 0, none⟩)] eg2 fixW x.fixes (fun y _ => wfix_fn W0 B bw v0 HB.out HLo.out bp HP0.out HNP.out y) F _ _ _ HD2.out HF.out T2.out HB.out (by have := HN.out; simp only [List.length_append]; omega)).mono ?_
  rintro e w3 ⟨rfl, t3⟩
  have T3 := Lib.hid t3
  clear t3 x2_2 p2
  have x3_3 := (HBx.out _ _ T3.out).cell (i := 3) rfl
  have p3 := (HPx.out _ _ T3.out).cell (i := 0) rfl
  go_wp2_with fail
  refine (eachDataSig_any W0 B bw v0 HLo.out 37 #[.pointer (some ⟨bw, 0, none⟩)] #[] eg3 dataW x.datas (fun y _ => wdata_fn W0 B bw v0 HB.out HLo.out y) F _ _ _ HD3.out HF.out T3.out HB.out (by have := HN.out; simp only [List.length_append]; omega)).mono ?_
  rintro e w4 ⟨rfl, t4⟩
  have T4 := Lib.hid t4
  clear t4 x3_3 p3
  have x4_4 := (HBx.out _ _ T4.out).cell (i := 4) rfl
  have p4 := (HPx.out _ _ T4.out).cell (i := 0) rfl
  go_wp2_with fail
  refine (eachClassSig_any W0 B bw v0 HLo.out 39 #[] #[.pointer (some ⟨bp, 0, none⟩)] eg4 classW x.classes (fun y _ => wclass_fn W0 B bw v0 HB.out HLo.out bp HP0.out HNP.out y) F _ _ _ HD4.out HF.out T4.out HB.out (by have := HN.out; simp only [List.length_append]; omega)).mono ?_
  rintro e w5 ⟨rfl, t5⟩
  have T5 := Lib.hid t5
  clear t5 x4_4 p4
  have x5_5 := (HBx.out _ _ T5.out).cell (i := 5) rfl
  have p5 := (HPx.out _ _ T5.out).cell (i := 0) rfl
  go_wp2_with fail
  refine (eachInstSig_any W0 B bw v0 HLo.out 43 #[] #[.pointer (some ⟨bp, 0, none⟩)] eg5 instW x.insts (fun y _ => winst_fn W0 B bw v0 HB.out HLo.out bp HP0.out HNP.out y) F _ _ _ HD5.out HF.out T5.out HB.out (by have := HN.out; simp only [List.length_append]; omega)).mono ?_
  rintro e w6 ⟨rfl, t6⟩
  have T6 := Lib.hid t6
  clear t6 x5_5 p5
  have x6_6 := (HBx.out _ _ T6.out).cell (i := 6) rfl
  have p6 := (HPx.out _ _ T6.out).cell (i := 0) rfl
  go_wp2_with fail
  refine (eachOpSig_any W0 B bw v0 HLo.out 48 #[] #[.pointer (some ⟨bp, 0, none⟩)] eg6 opW x.ops (fun y _ => wop_fn W0 B bw v0 HB.out HLo.out bp HP0.out HNP.out y) F _ _ _ HD6.out HF.out T6.out HB.out (by have := HN.out; simp only [List.length_append]; omega)).mono ?_
  rintro e w7 ⟨rfl, t7⟩
  have T7 := Lib.hid t7
  clear t7 x6_6 p6
  have x7_7 := (HBx.out _ _ T7.out).cell (i := 7) rfl
  have p7 := (HPx.out _ _ T7.out).cell (i := 0) rfl
  go_wp2_with fail
  refine (eachValSig_any W0 B bw v0 HLo.out 41 #[.pointer (some ⟨bw, 0, none⟩)] #[] eg7 valW x.vals (fun y _ => wval_fn W0 B bw v0 HB.out HLo.out y) F _ _ _ HD7.out HF.out T7.out HB.out (by have := HN.out; simp only [List.length_append]; omega)).mono ?_
  rintro e w8 ⟨rfl, t8⟩
  have T8 := Lib.hid t8
  clear t8 x7_7 p7
  go_wp2_with fail
  go_end0
  exact ⟨rfl, by rw [HEq.out]; exact HEnd.out _ _ T8.out⟩
end If
end Go.Proofs.YtcbkihplchdhhaaDoor
