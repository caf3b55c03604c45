/- The reader: requirements, values, constructors, data types, fixities, classes, instances, operations. -/
import Derived.Test.YtcbkihplchdhhaaDoorIfRT
namespace Go.Proofs.YtcbkihplchdhhaaDoor
open Go.RowKit Go.Shelf

namespace If
theorem typ0_len : Short typ0 := typR_len deepest
theorem rtyp_fn (br : Nat) : RFn 53 #[.pointer (some ⟨br, 0, none⟩)] argA tyD typ0 br 0 := rtyp_any 400 (Nat.le_refl _) br
theorem rtext_fn (br : Nat) : RFn 13 #[.pointer (some ⟨br, 0, none⟩)] argS dStr textR br 0 := by
  intro W r hr hl
  refine (rtext_any W br r 0 hr hl).mono ?_
  rintro e w ⟨rfl, h1, h2⟩
  exact ⟨[.string (textR r).1], rfl, rp_str.2 ⟨rfl, by have := textR_size r; unfold maxLen; omega⟩, h1, h2⟩
theorem predR_len : Short predR := fun r => by
  have h0 := textR_len r
  obtain ⟨y0, e0⟩ : ∃ y, textR r = y := ⟨_, rfl⟩
  rw [e0] at h0
  have h1 := typ0_len y0.2
  obtain ⟨y1, e1⟩ : ∃ y, typ0 y0.2 = y := ⟨_, rfl⟩
  rw [e1] at h1
  have hy : (predR r).2 = y1.2 := by unfold predR; dsimp only; rw [e0, e1]
  rw [hy]
  omega
set_option maxRecDepth 100000 in
set_option maxHeartbeats 8000000 in
theorem rpred_fn (br : Nat) : RFn 55 #[.pointer (some ⟨br, 0, none⟩)] argA Pred.d predR br 0 := by
  intro W r hr hl
  obtain ⟨y0, e0⟩ : ∃ y, textR r = y := ⟨_, rfl⟩
  obtain ⟨y1, e1⟩ : ∃ y, typ0 y0.2 = y := ⟨_, rfl⟩
  have hy : predR r = (⟨y0.1, y1.1⟩, y1.2) := by unfold predR; dsimp only; rw [e0, e1]
  rw [hy]
  clear hy
  have l0 : y0.2.s.length ≤ 1048576 := by have h := textR_len r; rw [e0] at h; omega
  have w0 : y0.1.size ≤ maxLen := by have h := textR_size r; rw [e0] at h; unfold maxLen; omega
  have l1 : y1.2.s.length ≤ 1048576 := by have h := typ0_len y0.2; rw [e1] at h; omega
  have HLen := Lib.hid (show r.s.length ≤ 1048576 ∧ y0.2.s.length ≤ 1048576 ∧ y1.2.s.length ≤ 1048576 ∧ True from ⟨hl, l0, l1, trivial⟩)
  have HWf0 := Lib.hid w0
  have HY0 := Lib.hid e0
  have HY1 := Lib.hid e1
  clear e0 e1 l0 l1 w0
  obtain ⟨b2, hb2⟩ : ∃ b2, W.heap.size = b2 := ⟨_, rfl⟩
  obtain ⟨W0, hW0⟩ : ∃ W0, W.alloc (.cells #[.string ⟨#[]⟩, .int .i64 0, .string ⟨#[]⟩, .int .i64 0, .slice none 0 0] 104) = W0 := ⟨_, rfl⟩
  have hkw : Keeps (fun _ => False) W W0 := by rw [← hW0]; exact (Keeps.refl _ _).alloc _
  have h2 : Blk W0 b2 104 [.string ⟨#[]⟩, .int .i64 0, .string ⟨#[]⟩, .int .i64 0, .slice none 0 0] := by rw [← hW0, ← hb2]; exact Blk.new W _ [_, _, _, _, _]
  have hz0 : W0.heap.size = b2 + 1 := by rw [← hW0, ← hb2]; simp
  have hbl : br < W.heap.size := Blk.lt hr
  have hnb : ¬ b2 = br := by omega
  have hbd : br < W0.heap.size ∧ b2 < W0.heap.size := by omega
  have HNb := Lib.hid hnb
  have HB0 := Lib.hid hbd
  have HR0 := Lib.hid (hr.keeps hkw (fun h => h))
  have H20 := Lib.hid h2
  have HKw := Lib.hid hkw
  have HW0 := Lib.hid hW0
  have HB2 := Lib.hid hb2
  clear hr hl hb2 hW0 hkw h2 hz0 hbl hnb hbd
  go_enter Tryd.func55, Tryd.ntmps55
  go_upto_region 1 with (fail)
  rw [HW0.out, HB2.out]
  go_wp2_with fail
  have hN := rtext_any W0 br r 0 HR0.out HLen.out.1
  rw [HY0.out] at hN
  refine hN.mono ?_
  clear hN
  rintro e v0 ⟨rfl, hr, hk⟩
  have HR1 := Lib.hid hr
  have H21 := Lib.hid (H20.out.keeps hk HNb.out)
  have HK1 := Lib.hid hk
  clear hr hk
  go_wp2_with fail
  have hN := rtyp_fn br v0 y0.2 HR1.out HLen.out.2.1
  rw [HY1.out] at hN
  refine hN.mono ?_
  clear hN
  rintro e v1 ⟨cs, rfl, hRp, hr, hk⟩
  obtain ⟨av, rfl, hD⟩ := tyD.rp.1 hRp
  obtain ⟨A1, c1, rfl, -, -, -⟩ := hD.form
  unfold argA
  unfold Ty.cells
  have h2 := H21.out.keeps hk HNb.out
  have x0 := h2.cell (i := 0) rfl
  have z0 := h2.free 0
  have x1 := h2.cell (i := 1) rfl
  have z1 := h2.free 1
  have x2 := h2.cell (i := 2) rfl
  have z2 := h2.free 2
  have x3 := h2.cell (i := 3) rfl
  have z3 := h2.free 3
  have x4 := h2.cell (i := 4) rfl
  have z4 := h2.free 4
  have hkk := (HK1.out.trans hk (fun _ _ h => h))
  have HD := Lib.hid hD
  have HR2 := Lib.hid hr
  have HK2 := Lib.hid hkk
  have HKv := Lib.hid hk
  have H22 := Lib.hid h2
  clear hD hr hkk hk h2 hRp
  go_wp2_with fail
  have h2 := H22.out
  have hkf : Keeps (· = b2) v1 (((((v1.setCell ⟨b2, 0, none⟩ (.string y0.1)).setCell ⟨b2, 1, none⟩ (.int .i64 y1.1.kind)).setCell ⟨b2, 2, none⟩ (.string y1.1.name)).setCell ⟨b2, 3, none⟩ (.int .i64 y1.1.var)).setCell ⟨b2, 4, none⟩ (.slice A1 y1.1.args.length c1)) := (((((Keeps.refl (· = b2) v1).setCell (p := ⟨b2, 0, none⟩) (fun _ => rfl) _).setCell (p := ⟨b2, 1, none⟩) (fun _ => rfl) _).setCell (p := ⟨b2, 2, none⟩) (fun _ => rfl) _).setCell (p := ⟨b2, 3, none⟩) (fun _ => rfl) _).setCell (p := ⟨b2, 4, none⟩) (fun _ => rfl) _
  have hzf : (((((v1.setCell ⟨b2, 0, none⟩ (.string y0.1)).setCell ⟨b2, 1, none⟩ (.int .i64 y1.1.kind)).setCell ⟨b2, 2, none⟩ (.string y1.1.name)).setCell ⟨b2, 3, none⟩ (.int .i64 y1.1.var)).setCell ⟨b2, 4, none⟩ (.slice A1 y1.1.args.length c1)).heap.size = v1.heap.size := by simp [World.setCell]
  have hbf : Blk (((((v1.setCell ⟨b2, 0, none⟩ (.string y0.1)).setCell ⟨b2, 1, none⟩ (.int .i64 y1.1.kind)).setCell ⟨b2, 2, none⟩ (.string y1.1.name)).setCell ⟨b2, 3, none⟩ (.int .i64 y1.1.var)).setCell ⟨b2, 4, none⟩ (.slice A1 y1.1.args.length c1)) b2 104 [.string y0.1, .int .i64 y1.1.kind, .string y1.1.name, .int .i64 y1.1.var, .slice A1 y1.1.args.length c1] := (((((h2).set_ 0 _).set_ 1 _).set_ 2 _).set_ 3 _).set_ 4 _
  have hb2l := HB0.out.2
  have hb0l := HB0.out.1
  have hk0 := HKw.out.size
  have hk1 := HK1.out.size
  have e1 := HB2.out
  generalize (((((v1.setCell ⟨b2, 0, none⟩ (.string y0.1)).setCell ⟨b2, 1, none⟩ (.int .i64 y1.1.kind)).setCell ⟨b2, 2, none⟩ (.string y1.1.name)).setCell ⟨b2, 3, none⟩ (.int .i64 y1.1.var)).setCell ⟨b2, 4, none⟩ (.slice A1 y1.1.args.length c1)) = wf at hkf hzf hbf
  refine ret_row rfl rfl hbf Tryd.underlying104 (by kernel_rfl) rfl ?_
  exact ⟨[.string y0.1, .int .i64 y1.1.kind, .string y1.1.name, .int .i64 y1.1.var, .slice A1 y1.1.args.length c1], rfl, Pred.rp.2 ⟨_, rfl, HWf0.out, (HD.out.keeps hkf (fun i hi h => by have := hi.1; omega)).mono (fun b hb => ⟨by have := hb.1; omega, by have := hb.2; omega⟩)⟩, HR2.out.keeps hkf (fun h => by have := HNb.out; omega), ((HKw.out.mono (fun _ _ h => h.elim)).trans HK2.out (fun _ _ h => h)).trans hkf (fun i hi h => by omega)⟩
theorem valR_len : Short valR := fun r => by
  have h0 := textR_len r
  obtain ⟨y0, e0⟩ : ∃ y, textR r = y := ⟨_, rfl⟩
  rw [e0] at h0
  have h1 := numR_len y0.2
  obtain ⟨y1, e1⟩ : ∃ y, numR y0.2 = y := ⟨_, rfl⟩
  rw [e1] at h1
  have h2 := (allR_len predR_len) y1.2
  obtain ⟨y2, e2⟩ : ∃ y, allR predR y1.2 = y := ⟨_, rfl⟩
  rw [e2] at h2
  have h3 := typ0_len y2.2
  obtain ⟨y3, e3⟩ : ∃ y, typ0 y2.2 = y := ⟨_, rfl⟩
  rw [e3] at h3
  have hy : (valR r).2 = y3.2 := by unfold valR; dsimp only; rw [e0, e1, e2, e3]
  rw [hy]
  omega
set_option maxRecDepth 100000 in
set_option maxHeartbeats 8000000 in
theorem rval_fn (br : Nat) : RFn 26 #[.pointer (some ⟨br, 0, none⟩)] argA ValSig.d valR br 0 := by
  intro W r hr hl
  obtain ⟨y0, e0⟩ : ∃ y, textR r = y := ⟨_, rfl⟩
  obtain ⟨y1, e1⟩ : ∃ y, numR y0.2 = y := ⟨_, rfl⟩
  obtain ⟨y2, e2⟩ : ∃ y, allR predR y1.2 = y := ⟨_, rfl⟩
  obtain ⟨y3, e3⟩ : ∃ y, typ0 y2.2 = y := ⟨_, rfl⟩
  have hy : valR r = (⟨y0.1, y1.1, y2.1, y3.1⟩, y3.2) := by unfold valR; dsimp only; rw [e0, e1, e2, e3]
  rw [hy]
  clear hy
  have l0 : y0.2.s.length ≤ 1048576 := by have h := textR_len r; rw [e0] at h; omega
  have w0 : y0.1.size ≤ maxLen := by have h := textR_size r; rw [e0] at h; unfold maxLen; omega
  have l1 : y1.2.s.length ≤ 1048576 := by have h := numR_len y0.2; rw [e1] at h; omega
  have w1 : (Lit.int .i64 y1.1).wf = true := by have h := numR_wf y0.2; rw [e1] at h; exact wf_num _ h
  have l2 : y2.2.s.length ≤ 1048576 := by have h := (allR_len predR_len) y1.2; rw [e2] at h; omega
  have l3 : y3.2.s.length ≤ 1048576 := by have h := typ0_len y2.2; rw [e3] at h; omega
  have HLen := Lib.hid (show r.s.length ≤ 1048576 ∧ y0.2.s.length ≤ 1048576 ∧ y1.2.s.length ≤ 1048576 ∧ y2.2.s.length ≤ 1048576 ∧ y3.2.s.length ≤ 1048576 ∧ True from ⟨hl, l0, l1, l2, l3, trivial⟩)
  have HWf0 := Lib.hid w0
  have HWf1 := Lib.hid w1
  have HY0 := Lib.hid e0
  have HY1 := Lib.hid e1
  have HY2 := Lib.hid e2
  have HY3 := Lib.hid e3
  have eg2 : Enters Tryd.prog 55 := enters_of Tryd.func55 (by kernel_rfl) rfl
  have HEg2 := Lib.hid eg2
  clear eg2
  clear e0 e1 e2 e3 l0 l1 l2 l3 w0 w1
  obtain ⟨b2, hb2⟩ : ∃ b2, W.heap.size = b2 := ⟨_, rfl⟩
  obtain ⟨W0, hW0⟩ : ∃ W0, W.alloc (.cells #[.string ⟨#[]⟩, .int .i64 0, .slice none 0 0, .int .i64 0, .string ⟨#[]⟩, .int .i64 0, .slice none 0 0] 61) = W0 := ⟨_, rfl⟩
  have hkw : Keeps (fun _ => False) W W0 := by rw [← hW0]; exact (Keeps.refl _ _).alloc _
  have h2 : Blk W0 b2 61 [.string ⟨#[]⟩, .int .i64 0, .slice none 0 0, .int .i64 0, .string ⟨#[]⟩, .int .i64 0, .slice none 0 0] := by rw [← hW0, ← hb2]; exact Blk.new W _ [_, _, _, _, _, _, _]
  have hz0 : W0.heap.size = b2 + 1 := by rw [← hW0, ← hb2]; simp
  have hbl : br < W.heap.size := Blk.lt hr
  have hnb : ¬ b2 = br := by omega
  have hbd : br < W0.heap.size ∧ b2 < W0.heap.size := by omega
  have HNb := Lib.hid hnb
  have HB0 := Lib.hid hbd
  have HR0 := Lib.hid (hr.keeps hkw (fun h => h))
  have H20 := Lib.hid h2
  have HKw := Lib.hid hkw
  have HW0 := Lib.hid hW0
  have HB2 := Lib.hid hb2
  clear hr hl hb2 hW0 hkw h2 hz0 hbl hnb hbd
  go_enter Tryd.func26, Tryd.ntmps26
  go_upto_region 1 with (fail)
  rw [HW0.out, HB2.out]
  go_wp2_with fail
  have hN := rtext_any W0 br r 0 HR0.out HLen.out.1
  rw [HY0.out] at hN
  refine hN.mono ?_
  clear hN
  rintro e v0 ⟨rfl, hr, hk⟩
  obtain ⟨bt, hbt⟩ : ∃ bt, v0.heap.size = bt := ⟨_, rfl⟩
  obtain ⟨W1, hW1⟩ : ∃ W1, v0.alloc (.cells #[.string y0.1, .int .i64 0, .slice none 0 0, .int .i64 0, .string ⟨#[]⟩, .int .i64 0, .slice none 0 0] 61) = W1 := ⟨_, rfl⟩
  have hk1 : Keeps (fun _ => False) v0 W1 := by rw [← hW1]; exact (Keeps.refl _ _).alloc _
  have ht : Blk W1 bt 61 [.string y0.1, .int .i64 0, .slice none 0 0, .int .i64 0, .string ⟨#[]⟩, .int .i64 0, .slice none 0 0] := by rw [← hW1, ← hbt]; exact Blk.new v0 _ [_, _, _, _, _, _, _]
  have hKK : Keeps (· = br) W0 W1 := hk.trans hk1 (fun _ _ h => h.elim)
  have hzz := hk.size
  have hBd : br < W0.heap.size ∧ b2 < W0.heap.size ∧ W0.heap.size ≤ bt := ⟨HB0.out.1, HB0.out.2, by omega⟩
  have n1 : ¬ bt = br := by omega
  have n2 : ¬ bt = b2 := by omega
  have n3 : ¬ br = bt := by omega
  have n4 : ¬ b2 = bt := by omega
  have HR1 := Lib.hid (hr.keeps hk1 (fun h => h))
  have H21 := Lib.hid ((H20.out.keeps hk HNb.out).keeps hk1 (fun h => h))
  have HT1 := Lib.hid ht
  have HK1 := Lib.hid hKK
  have HBd := Lib.hid hBd
  have HW1 := Lib.hid hW1
  have HBt := Lib.hid hbt
  clear hr hk hk1 ht hKK hBd hW1 hbt hzz HR0 H20
  go_upto_region 2 with (fail)
  rw [HW1.out, HBt.out]
  go_wp2_with fail
  have hN := rnum_any W1 br y0.2 0 HR1.out
  rw [HY1.out] at hN
  refine hN.mono ?_
  clear hN
  rintro e v1 ⟨rfl, hr, hk⟩
  have ht0 := HT1.out.keeps hk n1
  have g0 := ht0.free 1
  have q0 := ht0.cell (i := 1) rfl
  obtain ⟨W2, hW⟩ : ∃ W2, (v1.setCell ⟨bt, 1, none⟩ (.int .i64 y1.1)) = W2 := ⟨_, rfl⟩
  have hk2 : Keeps (· = bt) v1 W2 := by rw [← hW]; exact (Keeps.refl (· = bt) v1).setCell (p := ⟨bt, 1, none⟩) (fun _ => rfl) _
  have ht : Blk W2 bt 61 [.string y0.1, .int .i64 y1.1, .slice none 0 0, .int .i64 0, .string ⟨#[]⟩, .int .i64 0, .slice none 0 0] := by rw [← hW]; exact (ht0).set_ 1 _
  have hz2 : W2.heap.size = v1.heap.size := by rw [← hW]; simp [World.setCell]
  have hzk := hk.size
  have hKW := HK1.out.size
  have hbtl : bt < W1.heap.size := HT1.out.lt
  have HR2 := Lib.hid (hr.keeps hk2 n3)
  have H22 := Lib.hid ((H21.out.keeps hk HNb.out).keeps hk2 n4)
  have HT2 := Lib.hid ht
  have HK2 : Hid (Keeps (· = br) W0 W2) := (HK1.out.trans hk (fun _ _ h => h)).trans hk2 (fun i hi h => by have := HBd.out.2.2; omega)
  have HW2 := Lib.hid hW
  clear hW hk2 ht hz2 hzk hKW hbtl hr hk ht0 HR1 H21 HT1 HK1 
  go_upto_region 3 with (fail)
  rw [HW2.out]
  clear g0 q0
  go_wp2_with fail
  have hN := allPred_any br 0 55 #[.pointer (some ⟨br, 0, none⟩)] HEg2.out predR predR_len (rpred_fn br) W2 y1.2 HR2.out HLen.out.2.2.1
  rw [HY2.out] at hN
  refine hN.mono ?_
  clear hN
  rintro e v2 ⟨lv, rfl, hD, hr, hk⟩
  obtain ⟨A2, c2, rfl, -, -, -⟩ := hD.form
  have ht0 := HT2.out.keeps hk n1
  have g0 := ht0.free 2
  have q0 := ht0.cell (i := 2) rfl
  obtain ⟨W3, hW⟩ : ∃ W3, (v2.setCell ⟨bt, 2, none⟩ (.slice A2 y2.1.length c2)) = W3 := ⟨_, rfl⟩
  have hk2 : Keeps (· = bt) v2 W3 := by rw [← hW]; exact (Keeps.refl (· = bt) v2).setCell (p := ⟨bt, 2, none⟩) (fun _ => rfl) _
  have ht : Blk W3 bt 61 [.string y0.1, .int .i64 y1.1, .slice A2 y2.1.length c2, .int .i64 0, .string ⟨#[]⟩, .int .i64 0, .slice none 0 0] := by rw [← hW]; exact (ht0).set_ 2 _
  have hz2 : W3.heap.size = v2.heap.size := by rw [← hW]; simp [World.setCell]
  have hzk := hk.size
  have hKW := HK2.out.size
  have hbtl : bt < W2.heap.size := HT2.out.lt
  have HD2_3 := Lib.hid ((hD.keeps hk2 (fun i hi h => by have := hi.1; omega)).mono (G := fun b => (W0.heap.size ≤ b ∧ b < W3.heap.size) ∧ ¬ b = bt) (fun b hb => ⟨⟨by have := hb.1; omega, by have := hb.2; omega⟩, by have := hb.1; omega⟩))
  have HR3 := Lib.hid (hr.keeps hk2 n3)
  have H23 := Lib.hid ((H22.out.keeps hk HNb.out).keeps hk2 n4)
  have HT3 := Lib.hid ht
  have HK3 : Hid (Keeps (· = br) W0 W3) := (HK2.out.trans hk (fun _ _ h => h)).trans hk2 (fun i hi h => by have := HBd.out.2.2; omega)
  have HW3 := Lib.hid hW
  clear hW hk2 ht hz2 hzk hKW hbtl hr hk ht0 HR2 H22 HT2 HK2 hD
  go_upto_region 4 with (fail)
  rw [HW3.out]
  clear g0 q0
  go_wp2_with fail
  have hN := rtyp_fn br W3 y2.2 HR3.out HLen.out.2.2.2.1
  rw [HY3.out] at hN
  refine hN.mono ?_
  clear hN
  rintro e v3 ⟨cs, rfl, hRp, hr, hk⟩
  obtain ⟨av, rfl, hD⟩ := tyD.rp.1 hRp
  obtain ⟨A3, c3, rfl, -, -, -⟩ := hD.form
  unfold argA
  unfold Ty.cells
  have ht0 := HT3.out.keeps hk n1
  have g0 := ht0.free 3
  have q0 := ht0.cell (i := 3) rfl
  have g1 := ht0.free 4
  have q1 := ht0.cell (i := 4) rfl
  have g2 := ht0.free 5
  have q2 := ht0.cell (i := 5) rfl
  have g3 := ht0.free 6
  have q3 := ht0.cell (i := 6) rfl
  obtain ⟨W4, hW⟩ : ∃ W4, ((((v3.setCell ⟨bt, 3, none⟩ (.int .i64 y3.1.kind)).setCell ⟨bt, 4, none⟩ (.string y3.1.name)).setCell ⟨bt, 5, none⟩ (.int .i64 y3.1.var)).setCell ⟨bt, 6, none⟩ (.slice A3 y3.1.args.length c3)) = W4 := ⟨_, rfl⟩
  have hk2 : Keeps (· = bt) v3 W4 := by rw [← hW]; exact ((((Keeps.refl (· = bt) v3).setCell (p := ⟨bt, 3, none⟩) (fun _ => rfl) _).setCell (p := ⟨bt, 4, none⟩) (fun _ => rfl) _).setCell (p := ⟨bt, 5, none⟩) (fun _ => rfl) _).setCell (p := ⟨bt, 6, none⟩) (fun _ => rfl) _
  have ht : Blk W4 bt 61 [.string y0.1, .int .i64 y1.1, .slice A2 y2.1.length c2, .int .i64 y3.1.kind, .string y3.1.name, .int .i64 y3.1.var, .slice A3 y3.1.args.length c3] := by rw [← hW]; exact ((((ht0).set_ 3 _).set_ 4 _).set_ 5 _).set_ 6 _
  have hz2 : W4.heap.size = v3.heap.size := by rw [← hW]; simp [World.setCell]
  have hzk := hk.size
  have hKW := HK3.out.size
  have hbtl : bt < W3.heap.size := HT3.out.lt
  have HD2_4 := Lib.hid (((HD2_3.out.keeps hk (fun i hi h => by have := hi.1.1; have := HBd.out.1; omega)).keeps hk2 (fun i hi h => hi.2 h)).mono (G := fun b => (W0.heap.size ≤ b ∧ b < W4.heap.size) ∧ ¬ b = bt) (fun b hb => ⟨⟨hb.1.1, by have := hb.1.2; omega⟩, hb.2⟩))
  have HD3_4 := Lib.hid ((hD.keeps hk2 (fun i hi h => by have := hi.1; omega)).mono (G := fun b => (W0.heap.size ≤ b ∧ b < W4.heap.size) ∧ ¬ b = bt) (fun b hb => ⟨⟨by have := hb.1; omega, by have := hb.2; omega⟩, by have := hb.1; omega⟩))
  have HR4 := Lib.hid (hr.keeps hk2 n3)
  have H24 := Lib.hid ((H23.out.keeps hk HNb.out).keeps hk2 n4)
  have HT4 := Lib.hid ht
  have HK4 : Hid (Keeps (· = br) W0 W4) := (HK3.out.trans hk (fun _ _ h => h)).trans hk2 (fun i hi h => by have := HBd.out.2.2; omega)
  have HW4 := Lib.hid hW
  clear hW hk2 ht hz2 hzk hKW hbtl hr hk ht0 HR3 H23 HT3 HK3 HD2_3 hD hRp
  go_upto_region 5 with (fail)
  rw [HW4.out]
  clear g0 q0 g1 q1 g2 q2 g3 q3
  have t0 := HT4.out.cell (i := 0) rfl
  have x0 := H24.out.cell (i := 0) rfl
  have z0 := H24.out.free 0
  have t1 := HT4.out.cell (i := 1) rfl
  have x1 := H24.out.cell (i := 1) rfl
  have z1 := H24.out.free 1
  have t2 := HT4.out.cell (i := 2) rfl
  have x2 := H24.out.cell (i := 2) rfl
  have z2 := H24.out.free 2
  have t3 := HT4.out.cell (i := 3) rfl
  have x3 := H24.out.cell (i := 3) rfl
  have z3 := H24.out.free 3
  have t4 := HT4.out.cell (i := 4) rfl
  have x4 := H24.out.cell (i := 4) rfl
  have z4 := H24.out.free 4
  have t5 := HT4.out.cell (i := 5) rfl
  have x5 := H24.out.cell (i := 5) rfl
  have z5 := H24.out.free 5
  have t6 := HT4.out.cell (i := 6) rfl
  have x6 := H24.out.cell (i := 6) rfl
  have z6 := H24.out.free 6
  go_wp2_with fail
  have hkf : Keeps (· = b2) W4 (((((((W4.setCell ⟨b2, 0, none⟩ (.string y0.1)).setCell ⟨b2, 1, none⟩ (.int .i64 y1.1)).setCell ⟨b2, 2, none⟩ (.slice A2 y2.1.length c2)).setCell ⟨b2, 3, none⟩ (.int .i64 y3.1.kind)).setCell ⟨b2, 4, none⟩ (.string y3.1.name)).setCell ⟨b2, 5, none⟩ (.int .i64 y3.1.var)).setCell ⟨b2, 6, none⟩ (.slice A3 y3.1.args.length c3)) := (((((((Keeps.refl (· = b2) W4).setCell (p := ⟨b2, 0, none⟩) (fun _ => rfl) _).setCell (p := ⟨b2, 1, none⟩) (fun _ => rfl) _).setCell (p := ⟨b2, 2, none⟩) (fun _ => rfl) _).setCell (p := ⟨b2, 3, none⟩) (fun _ => rfl) _).setCell (p := ⟨b2, 4, none⟩) (fun _ => rfl) _).setCell (p := ⟨b2, 5, none⟩) (fun _ => rfl) _).setCell (p := ⟨b2, 6, none⟩) (fun _ => rfl) _
  have hzf : (((((((W4.setCell ⟨b2, 0, none⟩ (.string y0.1)).setCell ⟨b2, 1, none⟩ (.int .i64 y1.1)).setCell ⟨b2, 2, none⟩ (.slice A2 y2.1.length c2)).setCell ⟨b2, 3, none⟩ (.int .i64 y3.1.kind)).setCell ⟨b2, 4, none⟩ (.string y3.1.name)).setCell ⟨b2, 5, none⟩ (.int .i64 y3.1.var)).setCell ⟨b2, 6, none⟩ (.slice A3 y3.1.args.length c3)).heap.size = W4.heap.size := by simp [World.setCell]
  have hbf : Blk (((((((W4.setCell ⟨b2, 0, none⟩ (.string y0.1)).setCell ⟨b2, 1, none⟩ (.int .i64 y1.1)).setCell ⟨b2, 2, none⟩ (.slice A2 y2.1.length c2)).setCell ⟨b2, 3, none⟩ (.int .i64 y3.1.kind)).setCell ⟨b2, 4, none⟩ (.string y3.1.name)).setCell ⟨b2, 5, none⟩ (.int .i64 y3.1.var)).setCell ⟨b2, 6, none⟩ (.slice A3 y3.1.args.length c3)) b2 61 [.string y0.1, .int .i64 y1.1, .slice A2 y2.1.length c2, .int .i64 y3.1.kind, .string y3.1.name, .int .i64 y3.1.var, .slice A3 y3.1.args.length c3] := (((((((H24.out).set_ 0 _).set_ 1 _).set_ 2 _).set_ 3 _).set_ 4 _).set_ 5 _).set_ 6 _
  have hb2l := HB0.out.2
  have hb0l := HB0.out.1
  have hk0 := HKw.out.size
  have e1 := HB2.out
  generalize (((((((W4.setCell ⟨b2, 0, none⟩ (.string y0.1)).setCell ⟨b2, 1, none⟩ (.int .i64 y1.1)).setCell ⟨b2, 2, none⟩ (.slice A2 y2.1.length c2)).setCell ⟨b2, 3, none⟩ (.int .i64 y3.1.kind)).setCell ⟨b2, 4, none⟩ (.string y3.1.name)).setCell ⟨b2, 5, none⟩ (.int .i64 y3.1.var)).setCell ⟨b2, 6, none⟩ (.slice A3 y3.1.args.length c3)) = wf at hkf hzf hbf
  refine ret_row rfl rfl hbf Tryd.underlying61 (by kernel_rfl) rfl ?_
  exact ⟨[.string y0.1, .int .i64 y1.1, .slice A2 y2.1.length c2, .int .i64 y3.1.kind, .string y3.1.name, .int .i64 y3.1.var, .slice A3 y3.1.args.length c3], rfl, ValSig.rp.2 ⟨_, _, rfl, HWf0.out, HWf1.out, (HD2_4.out.keeps hkf (fun i hi h => by have := hi.1.1; omega)).mono (fun b hb => ⟨by have := hb.1.1; omega, by have := hb.1.2; omega⟩), (HD3_4.out.keeps hkf (fun i hi h => by have := hi.1.1; omega)).mono (fun b hb => ⟨by have := hb.1.1; omega, by have := hb.1.2; omega⟩)⟩, HR4.out.keeps hkf (fun h => by have := HNb.out; omega), ((HKw.out.mono (fun _ _ h => h.elim)).trans HK4.out (fun _ _ h => h)).trans hkf (fun i hi h => by omega)⟩
theorem conR_len : Short conR := fun r => by
  have h0 := textR_len r
  obtain ⟨y0, e0⟩ : ∃ y, textR r = y := ⟨_, rfl⟩
  rw [e0] at h0
  have h1 := (allR_len typ0_len) y0.2
  obtain ⟨y1, e1⟩ : ∃ y, allR typ0 y0.2 = y := ⟨_, rfl⟩
  rw [e1] at h1
  have hy : (conR r).2 = y1.2 := by unfold conR; dsimp only; rw [e0, e1]
  rw [hy]
  omega
set_option maxRecDepth 100000 in
set_option maxHeartbeats 8000000 in
theorem rcon_fn (br : Nat) : RFn 52 #[.pointer (some ⟨br, 0, none⟩)] argA ConSig.d conR br 0 := by
  intro W r hr hl
  obtain ⟨y0, e0⟩ : ∃ y, textR r = y := ⟨_, rfl⟩
  obtain ⟨y1, e1⟩ : ∃ y, allR typ0 y0.2 = y := ⟨_, rfl⟩
  have hy : conR r = (⟨y0.1, y1.1⟩, y1.2) := by unfold conR; dsimp only; rw [e0, e1]
  rw [hy]
  clear hy
  have l0 : y0.2.s.length ≤ 1048576 := by have h := textR_len r; rw [e0] at h; omega
  have w0 : y0.1.size ≤ maxLen := by have h := textR_size r; rw [e0] at h; unfold maxLen; omega
  have l1 : y1.2.s.length ≤ 1048576 := by have h := (allR_len typ0_len) y0.2; rw [e1] at h; omega
  have HLen := Lib.hid (show r.s.length ≤ 1048576 ∧ y0.2.s.length ≤ 1048576 ∧ y1.2.s.length ≤ 1048576 ∧ True from ⟨hl, l0, l1, trivial⟩)
  have HWf0 := Lib.hid w0
  have HY0 := Lib.hid e0
  have HY1 := Lib.hid e1
  have eg1 : Enters Tryd.prog 53 := enters_of Tryd.func53 (by kernel_rfl) rfl
  have HEg1 := Lib.hid eg1
  clear eg1
  clear e0 e1 l0 l1 w0
  obtain ⟨b2, hb2⟩ : ∃ b2, W.heap.size = b2 := ⟨_, rfl⟩
  obtain ⟨W0, hW0⟩ : ∃ W0, W.alloc (.cells #[.string ⟨#[]⟩, .slice none 0 0] 56) = W0 := ⟨_, rfl⟩
  have hkw : Keeps (fun _ => False) W W0 := by rw [← hW0]; exact (Keeps.refl _ _).alloc _
  have h2 : Blk W0 b2 56 [.string ⟨#[]⟩, .slice none 0 0] := by rw [← hW0, ← hb2]; exact Blk.new W _ [_, _]
  have hz0 : W0.heap.size = b2 + 1 := by rw [← hW0, ← hb2]; simp
  have hbl : br < W.heap.size := Blk.lt hr
  have hnb : ¬ b2 = br := by omega
  have hbd : br < W0.heap.size ∧ b2 < W0.heap.size := by omega
  have HNb := Lib.hid hnb
  have HB0 := Lib.hid hbd
  have HR0 := Lib.hid (hr.keeps hkw (fun h => h))
  have H20 := Lib.hid h2
  have HKw := Lib.hid hkw
  have HW0 := Lib.hid hW0
  have HB2 := Lib.hid hb2
  clear hr hl hb2 hW0 hkw h2 hz0 hbl hnb hbd
  go_enter Tryd.func52, Tryd.ntmps52
  go_upto_region 1 with (fail)
  rw [HW0.out, HB2.out]
  go_wp2_with fail
  have hN := rtext_any W0 br r 0 HR0.out HLen.out.1
  rw [HY0.out] at hN
  refine hN.mono ?_
  clear hN
  rintro e v0 ⟨rfl, hr, hk⟩
  obtain ⟨bt, hbt⟩ : ∃ bt, v0.heap.size = bt := ⟨_, rfl⟩
  obtain ⟨W1, hW1⟩ : ∃ W1, v0.alloc (.cells #[.string y0.1, .slice none 0 0] 56) = W1 := ⟨_, rfl⟩
  have hk1 : Keeps (fun _ => False) v0 W1 := by rw [← hW1]; exact (Keeps.refl _ _).alloc _
  have ht : Blk W1 bt 56 [.string y0.1, .slice none 0 0] := by rw [← hW1, ← hbt]; exact Blk.new v0 _ [_, _]
  have hKK : Keeps (· = br) W0 W1 := hk.trans hk1 (fun _ _ h => h.elim)
  have hzz := hk.size
  have hBd : br < W0.heap.size ∧ b2 < W0.heap.size ∧ W0.heap.size ≤ bt := ⟨HB0.out.1, HB0.out.2, by omega⟩
  have n1 : ¬ bt = br := by omega
  have n2 : ¬ bt = b2 := by omega
  have n3 : ¬ br = bt := by omega
  have n4 : ¬ b2 = bt := by omega
  have HR1 := Lib.hid (hr.keeps hk1 (fun h => h))
  have H21 := Lib.hid ((H20.out.keeps hk HNb.out).keeps hk1 (fun h => h))
  have HT1 := Lib.hid ht
  have HK1 := Lib.hid hKK
  have HBd := Lib.hid hBd
  have HW1 := Lib.hid hW1
  have HBt := Lib.hid hbt
  clear hr hk hk1 ht hKK hBd hW1 hbt hzz HR0 H20
  go_upto_region 2 with (fail)
  rw [HW1.out, HBt.out]
  go_wp2_with fail
  have hN := allTy_any br 0 53 #[.pointer (some ⟨br, 0, none⟩)] HEg1.out typ0 typ0_len (rtyp_fn br) W1 y0.2 HR1.out HLen.out.2.1
  rw [HY1.out] at hN
  refine hN.mono ?_
  clear hN
  rintro e v1 ⟨lv, rfl, hD, hr, hk⟩
  obtain ⟨A1, c1, rfl, -, -, -⟩ := hD.form
  have ht0 := HT1.out.keeps hk n1
  have g0 := ht0.free 1
  have q0 := ht0.cell (i := 1) rfl
  obtain ⟨W2, hW⟩ : ∃ W2, (v1.setCell ⟨bt, 1, none⟩ (.slice A1 y1.1.length c1)) = W2 := ⟨_, rfl⟩
  have hk2 : Keeps (· = bt) v1 W2 := by rw [← hW]; exact (Keeps.refl (· = bt) v1).setCell (p := ⟨bt, 1, none⟩) (fun _ => rfl) _
  have ht : Blk W2 bt 56 [.string y0.1, .slice A1 y1.1.length c1] := by rw [← hW]; exact (ht0).set_ 1 _
  have hz2 : W2.heap.size = v1.heap.size := by rw [← hW]; simp [World.setCell]
  have hzk := hk.size
  have hKW := HK1.out.size
  have hbtl : bt < W1.heap.size := HT1.out.lt
  have HD1_2 := Lib.hid ((hD.keeps hk2 (fun i hi h => by have := hi.1; omega)).mono (G := fun b => (W0.heap.size ≤ b ∧ b < W2.heap.size) ∧ ¬ b = bt) (fun b hb => ⟨⟨by have := hb.1; omega, by have := hb.2; omega⟩, by have := hb.1; omega⟩))
  have HR2 := Lib.hid (hr.keeps hk2 n3)
  have H22 := Lib.hid ((H21.out.keeps hk HNb.out).keeps hk2 n4)
  have HT2 := Lib.hid ht
  have HK2 : Hid (Keeps (· = br) W0 W2) := (HK1.out.trans hk (fun _ _ h => h)).trans hk2 (fun i hi h => by have := HBd.out.2.2; omega)
  have HW2 := Lib.hid hW
  clear hW hk2 ht hz2 hzk hKW hbtl hr hk ht0 HR1 H21 HT1 HK1 hD
  go_upto_region 3 with (fail)
  rw [HW2.out]
  clear g0 q0
  have t0 := HT2.out.cell (i := 0) rfl
  have x0 := H22.out.cell (i := 0) rfl
  have z0 := H22.out.free 0
  have t1 := HT2.out.cell (i := 1) rfl
  have x1 := H22.out.cell (i := 1) rfl
  have z1 := H22.out.free 1
  go_wp2_with fail
  have hkf : Keeps (· = b2) W2 ((W2.setCell ⟨b2, 0, none⟩ (.string y0.1)).setCell ⟨b2, 1, none⟩ (.slice A1 y1.1.length c1)) := ((Keeps.refl (· = b2) W2).setCell (p := ⟨b2, 0, none⟩) (fun _ => rfl) _).setCell (p := ⟨b2, 1, none⟩) (fun _ => rfl) _
  have hzf : ((W2.setCell ⟨b2, 0, none⟩ (.string y0.1)).setCell ⟨b2, 1, none⟩ (.slice A1 y1.1.length c1)).heap.size = W2.heap.size := by simp [World.setCell]
  have hbf : Blk ((W2.setCell ⟨b2, 0, none⟩ (.string y0.1)).setCell ⟨b2, 1, none⟩ (.slice A1 y1.1.length c1)) b2 56 [.string y0.1, .slice A1 y1.1.length c1] := ((H22.out).set_ 0 _).set_ 1 _
  have hb2l := HB0.out.2
  have hb0l := HB0.out.1
  have hk0 := HKw.out.size
  have e1 := HB2.out
  generalize ((W2.setCell ⟨b2, 0, none⟩ (.string y0.1)).setCell ⟨b2, 1, none⟩ (.slice A1 y1.1.length c1)) = wf at hkf hzf hbf
  refine ret_row rfl rfl hbf Tryd.underlying56 (by kernel_rfl) rfl ?_
  exact ⟨[.string y0.1, .slice A1 y1.1.length c1], rfl, ConSig.rp.2 ⟨_, rfl, HWf0.out, (HD1_2.out.keeps hkf (fun i hi h => by have := hi.1.1; omega)).mono (fun b hb => ⟨by have := hb.1.1; omega, by have := hb.1.2; omega⟩)⟩, HR2.out.keeps hkf (fun h => by have := HNb.out; omega), ((HKw.out.mono (fun _ _ h => h.elim)).trans HK2.out (fun _ _ h => h)).trans hkf (fun i hi h => by omega)⟩
theorem dataR_len : Short dataR := fun r => by
  have h0 := textR_len r
  obtain ⟨y0, e0⟩ : ∃ y, textR r = y := ⟨_, rfl⟩
  rw [e0] at h0
  have h1 := numR_len y0.2
  obtain ⟨y1, e1⟩ : ∃ y, numR y0.2 = y := ⟨_, rfl⟩
  rw [e1] at h1
  have h2 := (allR_len conR_len) y1.2
  obtain ⟨y2, e2⟩ : ∃ y, allR conR y1.2 = y := ⟨_, rfl⟩
  rw [e2] at h2
  have hy : (dataR r).2 = y2.2 := by unfold dataR; dsimp only; rw [e0, e1, e2]
  rw [hy]
  omega
set_option maxRecDepth 100000 in
set_option maxHeartbeats 8000000 in
theorem rdata_fn (br : Nat) : RFn 18 #[.pointer (some ⟨br, 0, none⟩)] argA DataSig.d dataR br 0 := by
  intro W r hr hl
  obtain ⟨y0, e0⟩ : ∃ y, textR r = y := ⟨_, rfl⟩
  obtain ⟨y1, e1⟩ : ∃ y, numR y0.2 = y := ⟨_, rfl⟩
  obtain ⟨y2, e2⟩ : ∃ y, allR conR y1.2 = y := ⟨_, rfl⟩
  have hy : dataR r = (⟨y0.1, y1.1, y2.1⟩, y2.2) := by unfold dataR; dsimp only; rw [e0, e1, e2]
  rw [hy]
  clear hy
  have l0 : y0.2.s.length ≤ 1048576 := by have h := textR_len r; rw [e0] at h; omega
  have w0 : y0.1.size ≤ maxLen := by have h := textR_size r; rw [e0] at h; unfold maxLen; omega
  have l1 : y1.2.s.length ≤ 1048576 := by have h := numR_len y0.2; rw [e1] at h; omega
  have w1 : (Lit.int .i64 y1.1).wf = true := by have h := numR_wf y0.2; rw [e1] at h; exact wf_num _ h
  have l2 : y2.2.s.length ≤ 1048576 := by have h := (allR_len conR_len) y1.2; rw [e2] at h; omega
  have HLen := Lib.hid (show r.s.length ≤ 1048576 ∧ y0.2.s.length ≤ 1048576 ∧ y1.2.s.length ≤ 1048576 ∧ y2.2.s.length ≤ 1048576 ∧ True from ⟨hl, l0, l1, l2, trivial⟩)
  have HWf0 := Lib.hid w0
  have HWf1 := Lib.hid w1
  have HY0 := Lib.hid e0
  have HY1 := Lib.hid e1
  have HY2 := Lib.hid e2
  have eg2 : Enters Tryd.prog 52 := enters_of Tryd.func52 (by kernel_rfl) rfl
  have HEg2 := Lib.hid eg2
  clear eg2
  clear e0 e1 e2 l0 l1 l2 w0 w1
  obtain ⟨b2, hb2⟩ : ∃ b2, W.heap.size = b2 := ⟨_, rfl⟩
  obtain ⟨W0, hW0⟩ : ∃ W0, W.alloc (.cells #[.string ⟨#[]⟩, .int .i64 0, .slice none 0 0] 54) = W0 := ⟨_, rfl⟩
  have hkw : Keeps (fun _ => False) W W0 := by rw [← hW0]; exact (Keeps.refl _ _).alloc _
  have h2 : Blk W0 b2 54 [.string ⟨#[]⟩, .int .i64 0, .slice none 0 0] := by rw [← hW0, ← hb2]; exact Blk.new W _ [_, _, _]
  have hz0 : W0.heap.size = b2 + 1 := by rw [← hW0, ← hb2]; simp
  have hbl : br < W.heap.size := Blk.lt hr
  have hnb : ¬ b2 = br := by omega
  have hbd : br < W0.heap.size ∧ b2 < W0.heap.size := by omega
  have HNb := Lib.hid hnb
  have HB0 := Lib.hid hbd
  have HR0 := Lib.hid (hr.keeps hkw (fun h => h))
  have H20 := Lib.hid h2
  have HKw := Lib.hid hkw
  have HW0 := Lib.hid hW0
  have HB2 := Lib.hid hb2
  clear hr hl hb2 hW0 hkw h2 hz0 hbl hnb hbd
  go_enter Tryd.func18, Tryd.ntmps18
  go_upto_region 1 with (fail)
  rw [HW0.out, HB2.out]
  go_wp2_with fail
  have hN := rtext_any W0 br r 0 HR0.out HLen.out.1
  rw [HY0.out] at hN
  refine hN.mono ?_
  clear hN
  rintro e v0 ⟨rfl, hr, hk⟩
  obtain ⟨bt, hbt⟩ : ∃ bt, v0.heap.size = bt := ⟨_, rfl⟩
  obtain ⟨W1, hW1⟩ : ∃ W1, v0.alloc (.cells #[.string y0.1, .int .i64 0, .slice none 0 0] 54) = W1 := ⟨_, rfl⟩
  have hk1 : Keeps (fun _ => False) v0 W1 := by rw [← hW1]; exact (Keeps.refl _ _).alloc _
  have ht : Blk W1 bt 54 [.string y0.1, .int .i64 0, .slice none 0 0] := by rw [← hW1, ← hbt]; exact Blk.new v0 _ [_, _, _]
  have hKK : Keeps (· = br) W0 W1 := hk.trans hk1 (fun _ _ h => h.elim)
  have hzz := hk.size
  have hBd : br < W0.heap.size ∧ b2 < W0.heap.size ∧ W0.heap.size ≤ bt := ⟨HB0.out.1, HB0.out.2, by omega⟩
  have n1 : ¬ bt = br := by omega
  have n2 : ¬ bt = b2 := by omega
  have n3 : ¬ br = bt := by omega
  have n4 : ¬ b2 = bt := by omega
  have HR1 := Lib.hid (hr.keeps hk1 (fun h => h))
  have H21 := Lib.hid ((H20.out.keeps hk HNb.out).keeps hk1 (fun h => h))
  have HT1 := Lib.hid ht
  have HK1 := Lib.hid hKK
  have HBd := Lib.hid hBd
  have HW1 := Lib.hid hW1
  have HBt := Lib.hid hbt
  clear hr hk hk1 ht hKK hBd hW1 hbt hzz HR0 H20
  go_upto_region 2 with (fail)
  rw [HW1.out, HBt.out]
  go_wp2_with fail
  have hN := rnum_any W1 br y0.2 0 HR1.out
  rw [HY1.out] at hN
  refine hN.mono ?_
  clear hN
  rintro e v1 ⟨rfl, hr, hk⟩
  have ht0 := HT1.out.keeps hk n1
  have g0 := ht0.free 1
  have q0 := ht0.cell (i := 1) rfl
  obtain ⟨W2, hW⟩ : ∃ W2, (v1.setCell ⟨bt, 1, none⟩ (.int .i64 y1.1)) = W2 := ⟨_, rfl⟩
  have hk2 : Keeps (· = bt) v1 W2 := by rw [← hW]; exact (Keeps.refl (· = bt) v1).setCell (p := ⟨bt, 1, none⟩) (fun _ => rfl) _
  have ht : Blk W2 bt 54 [.string y0.1, .int .i64 y1.1, .slice none 0 0] := by rw [← hW]; exact (ht0).set_ 1 _
  have hz2 : W2.heap.size = v1.heap.size := by rw [← hW]; simp [World.setCell]
  have hzk := hk.size
  have hKW := HK1.out.size
  have hbtl : bt < W1.heap.size := HT1.out.lt
  have HR2 := Lib.hid (hr.keeps hk2 n3)
  have H22 := Lib.hid ((H21.out.keeps hk HNb.out).keeps hk2 n4)
  have HT2 := Lib.hid ht
  have HK2 : Hid (Keeps (· = br) W0 W2) := (HK1.out.trans hk (fun _ _ h => h)).trans hk2 (fun i hi h => by have := HBd.out.2.2; omega)
  have HW2 := Lib.hid hW
  clear hW hk2 ht hz2 hzk hKW hbtl hr hk ht0 HR1 H21 HT1 HK1 
  go_upto_region 3 with (fail)
  rw [HW2.out]
  clear g0 q0
  go_wp2_with fail
  have hN := allConSig_any br 0 52 #[.pointer (some ⟨br, 0, none⟩)] HEg2.out conR conR_len (rcon_fn br) W2 y1.2 HR2.out HLen.out.2.2.1
  rw [HY2.out] at hN
  refine hN.mono ?_
  clear hN
  rintro e v2 ⟨lv, rfl, hD, hr, hk⟩
  obtain ⟨A2, c2, rfl, -, -, -⟩ := hD.form
  have ht0 := HT2.out.keeps hk n1
  have g0 := ht0.free 2
  have q0 := ht0.cell (i := 2) rfl
  obtain ⟨W3, hW⟩ : ∃ W3, (v2.setCell ⟨bt, 2, none⟩ (.slice A2 y2.1.length c2)) = W3 := ⟨_, rfl⟩
  have hk2 : Keeps (· = bt) v2 W3 := by rw [← hW]; exact (Keeps.refl (· = bt) v2).setCell (p := ⟨bt, 2, none⟩) (fun _ => rfl) _
  have ht : Blk W3 bt 54 [.string y0.1, .int .i64 y1.1, .slice A2 y2.1.length c2] := by rw [← hW]; exact (ht0).set_ 2 _
  have hz2 : W3.heap.size = v2.heap.size := by rw [← hW]; simp [World.setCell]
  have hzk := hk.size
  have hKW := HK2.out.size
  have hbtl : bt < W2.heap.size := HT2.out.lt
  have HD2_3 := Lib.hid ((hD.keeps hk2 (fun i hi h => by have := hi.1; omega)).mono (G := fun b => (W0.heap.size ≤ b ∧ b < W3.heap.size) ∧ ¬ b = bt) (fun b hb => ⟨⟨by have := hb.1; omega, by have := hb.2; omega⟩, by have := hb.1; omega⟩))
  have HR3 := Lib.hid (hr.keeps hk2 n3)
  have H23 := Lib.hid ((H22.out.keeps hk HNb.out).keeps hk2 n4)
  have HT3 := Lib.hid ht
  have HK3 : Hid (Keeps (· = br) W0 W3) := (HK2.out.trans hk (fun _ _ h => h)).trans hk2 (fun i hi h => by have := HBd.out.2.2; omega)
  have HW3 := Lib.hid hW
  clear hW hk2 ht hz2 hzk hKW hbtl hr hk ht0 HR2 H22 HT2 HK2 hD
  go_upto_region 4 with (fail)
  rw [HW3.out]
  clear g0 q0
  have t0 := HT3.out.cell (i := 0) rfl
  have x0 := H23.out.cell (i := 0) rfl
  have z0 := H23.out.free 0
  have t1 := HT3.out.cell (i := 1) rfl
  have x1 := H23.out.cell (i := 1) rfl
  have z1 := H23.out.free 1
  have t2 := HT3.out.cell (i := 2) rfl
  have x2 := H23.out.cell (i := 2) rfl
  have z2 := H23.out.free 2
  go_wp2_with fail
  have hkf : Keeps (· = b2) W3 (((W3.setCell ⟨b2, 0, none⟩ (.string y0.1)).setCell ⟨b2, 1, none⟩ (.int .i64 y1.1)).setCell ⟨b2, 2, none⟩ (.slice A2 y2.1.length c2)) := (((Keeps.refl (· = b2) W3).setCell (p := ⟨b2, 0, none⟩) (fun _ => rfl) _).setCell (p := ⟨b2, 1, none⟩) (fun _ => rfl) _).setCell (p := ⟨b2, 2, none⟩) (fun _ => rfl) _
  have hzf : (((W3.setCell ⟨b2, 0, none⟩ (.string y0.1)).setCell ⟨b2, 1, none⟩ (.int .i64 y1.1)).setCell ⟨b2, 2, none⟩ (.slice A2 y2.1.length c2)).heap.size = W3.heap.size := by simp [World.setCell]
  have hbf : Blk (((W3.setCell ⟨b2, 0, none⟩ (.string y0.1)).setCell ⟨b2, 1, none⟩ (.int .i64 y1.1)).setCell ⟨b2, 2, none⟩ (.slice A2 y2.1.length c2)) b2 54 [.string y0.1, .int .i64 y1.1, .slice A2 y2.1.length c2] := (((H23.out).set_ 0 _).set_ 1 _).set_ 2 _
  have hb2l := HB0.out.2
  have hb0l := HB0.out.1
  have hk0 := HKw.out.size
  have e1 := HB2.out
  generalize (((W3.setCell ⟨b2, 0, none⟩ (.string y0.1)).setCell ⟨b2, 1, none⟩ (.int .i64 y1.1)).setCell ⟨b2, 2, none⟩ (.slice A2 y2.1.length c2)) = wf at hkf hzf hbf
  refine ret_row rfl rfl hbf Tryd.underlying54 (by kernel_rfl) rfl ?_
  exact ⟨[.string y0.1, .int .i64 y1.1, .slice A2 y2.1.length c2], rfl, DataSig.rp.2 ⟨_, rfl, HWf0.out, HWf1.out, (HD2_3.out.keeps hkf (fun i hi h => by have := hi.1.1; omega)).mono (fun b hb => ⟨by have := hb.1.1; omega, by have := hb.1.2; omega⟩)⟩, HR3.out.keeps hkf (fun h => by have := HNb.out; omega), ((HKw.out.mono (fun _ _ h => h.elim)).trans HK3.out (fun _ _ h => h)).trans hkf (fun i hi h => by omega)⟩
theorem fixR_len : Short fixR := fun r => by
  have h0 := textR_len r
  obtain ⟨y0, e0⟩ : ∃ y, textR r = y := ⟨_, rfl⟩
  rw [e0] at h0
  have h1 := numR_len y0.2
  obtain ⟨y1, e1⟩ : ∃ y, numR y0.2 = y := ⟨_, rfl⟩
  rw [e1] at h1
  have h2 := numR_len y1.2
  obtain ⟨y2, e2⟩ : ∃ y, numR y1.2 = y := ⟨_, rfl⟩
  rw [e2] at h2
  have hy : (fixR r).2 = y2.2 := by unfold fixR; dsimp only; rw [e0, e1, e2]
  rw [hy]
  omega
set_option maxRecDepth 100000 in
set_option maxHeartbeats 8000000 in
theorem rfix_fn (br : Nat) : RFn 16 #[.pointer (some ⟨br, 0, none⟩)] argA FixSig.d fixR br 0 := by
  intro W r hr hl
  obtain ⟨y0, e0⟩ : ∃ y, textR r = y := ⟨_, rfl⟩
  obtain ⟨y1, e1⟩ : ∃ y, numR y0.2 = y := ⟨_, rfl⟩
  obtain ⟨y2, e2⟩ : ∃ y, numR y1.2 = y := ⟨_, rfl⟩
  have hy : fixR r = (⟨y0.1, y1.1, y2.1⟩, y2.2) := by unfold fixR; dsimp only; rw [e0, e1, e2]
  rw [hy]
  clear hy
  have l0 : y0.2.s.length ≤ 1048576 := by have h := textR_len r; rw [e0] at h; omega
  have w0 : y0.1.size ≤ maxLen := by have h := textR_size r; rw [e0] at h; unfold maxLen; omega
  have l1 : y1.2.s.length ≤ 1048576 := by have h := numR_len y0.2; rw [e1] at h; omega
  have w1 : (Lit.int .i64 y1.1).wf = true := by have h := numR_wf y0.2; rw [e1] at h; exact wf_num _ h
  have l2 : y2.2.s.length ≤ 1048576 := by have h := numR_len y1.2; rw [e2] at h; omega
  have w2 : (Lit.int .i64 y2.1).wf = true := by have h := numR_wf y1.2; rw [e2] at h; exact wf_num _ h
  have HLen := Lib.hid (show r.s.length ≤ 1048576 ∧ y0.2.s.length ≤ 1048576 ∧ y1.2.s.length ≤ 1048576 ∧ y2.2.s.length ≤ 1048576 ∧ True from ⟨hl, l0, l1, l2, trivial⟩)
  have HWf0 := Lib.hid w0
  have HWf1 := Lib.hid w1
  have HWf2 := Lib.hid w2
  have HY0 := Lib.hid e0
  have HY1 := Lib.hid e1
  have HY2 := Lib.hid e2
  clear e0 e1 e2 l0 l1 l2 w0 w1 w2
  obtain ⟨b2, hb2⟩ : ∃ b2, W.heap.size = b2 := ⟨_, rfl⟩
  obtain ⟨W0, hW0⟩ : ∃ W0, W.alloc (.cells #[.string ⟨#[]⟩, .int .i64 0, .int .i64 0] 51) = W0 := ⟨_, rfl⟩
  have hkw : Keeps (fun _ => False) W W0 := by rw [← hW0]; exact (Keeps.refl _ _).alloc _
  have h2 : Blk W0 b2 51 [.string ⟨#[]⟩, .int .i64 0, .int .i64 0] := by rw [← hW0, ← hb2]; exact Blk.new W _ [_, _, _]
  have hz0 : W0.heap.size = b2 + 1 := by rw [← hW0, ← hb2]; simp
  have hbl : br < W.heap.size := Blk.lt hr
  have hnb : ¬ b2 = br := by omega
  have hbd : br < W0.heap.size ∧ b2 < W0.heap.size := by omega
  have HNb := Lib.hid hnb
  have HB0 := Lib.hid hbd
  have HR0 := Lib.hid (hr.keeps hkw (fun h => h))
  have H20 := Lib.hid h2
  have HKw := Lib.hid hkw
  have HW0 := Lib.hid hW0
  have HB2 := Lib.hid hb2
  clear hr hl hb2 hW0 hkw h2 hz0 hbl hnb hbd
  go_enter Tryd.func16, Tryd.ntmps16
  go_upto_region 1 with (fail)
  rw [HW0.out, HB2.out]
  go_wp2_with fail
  have hN := rtext_any W0 br r 0 HR0.out HLen.out.1
  rw [HY0.out] at hN
  refine hN.mono ?_
  clear hN
  rintro e v0 ⟨rfl, hr, hk⟩
  obtain ⟨bt, hbt⟩ : ∃ bt, v0.heap.size = bt := ⟨_, rfl⟩
  obtain ⟨W1, hW1⟩ : ∃ W1, v0.alloc (.cells #[.string y0.1, .int .i64 0, .int .i64 0] 51) = W1 := ⟨_, rfl⟩
  have hk1 : Keeps (fun _ => False) v0 W1 := by rw [← hW1]; exact (Keeps.refl _ _).alloc _
  have ht : Blk W1 bt 51 [.string y0.1, .int .i64 0, .int .i64 0] := by rw [← hW1, ← hbt]; exact Blk.new v0 _ [_, _, _]
  have hKK : Keeps (· = br) W0 W1 := hk.trans hk1 (fun _ _ h => h.elim)
  have hzz := hk.size
  have hBd : br < W0.heap.size ∧ b2 < W0.heap.size ∧ W0.heap.size ≤ bt := ⟨HB0.out.1, HB0.out.2, by omega⟩
  have n1 : ¬ bt = br := by omega
  have n2 : ¬ bt = b2 := by omega
  have n3 : ¬ br = bt := by omega
  have n4 : ¬ b2 = bt := by omega
  have HR1 := Lib.hid (hr.keeps hk1 (fun h => h))
  have H21 := Lib.hid ((H20.out.keeps hk HNb.out).keeps hk1 (fun h => h))
  have HT1 := Lib.hid ht
  have HK1 := Lib.hid hKK
  have HBd := Lib.hid hBd
  have HW1 := Lib.hid hW1
  have HBt := Lib.hid hbt
  clear hr hk hk1 ht hKK hBd hW1 hbt hzz HR0 H20
  go_upto_region 2 with (fail)
  rw [HW1.out, HBt.out]
  go_wp2_with fail
  have hN := rnum_any W1 br y0.2 0 HR1.out
  rw [HY1.out] at hN
  refine hN.mono ?_
  clear hN
  rintro e v1 ⟨rfl, hr, hk⟩
  have ht0 := HT1.out.keeps hk n1
  have g0 := ht0.free 1
  have q0 := ht0.cell (i := 1) rfl
  obtain ⟨W2, hW⟩ : ∃ W2, (v1.setCell ⟨bt, 1, none⟩ (.int .i64 y1.1)) = W2 := ⟨_, rfl⟩
  have hk2 : Keeps (· = bt) v1 W2 := by rw [← hW]; exact (Keeps.refl (· = bt) v1).setCell (p := ⟨bt, 1, none⟩) (fun _ => rfl) _
  have ht : Blk W2 bt 51 [.string y0.1, .int .i64 y1.1, .int .i64 0] := by rw [← hW]; exact (ht0).set_ 1 _
  have hz2 : W2.heap.size = v1.heap.size := by rw [← hW]; simp [World.setCell]
  have hzk := hk.size
  have hKW := HK1.out.size
  have hbtl : bt < W1.heap.size := HT1.out.lt
  have HR2 := Lib.hid (hr.keeps hk2 n3)
  have H22 := Lib.hid ((H21.out.keeps hk HNb.out).keeps hk2 n4)
  have HT2 := Lib.hid ht
  have HK2 : Hid (Keeps (· = br) W0 W2) := (HK1.out.trans hk (fun _ _ h => h)).trans hk2 (fun i hi h => by have := HBd.out.2.2; omega)
  have HW2 := Lib.hid hW
  clear hW hk2 ht hz2 hzk hKW hbtl hr hk ht0 HR1 H21 HT1 HK1 
  go_upto_region 3 with (fail)
  rw [HW2.out]
  clear g0 q0
  go_wp2_with fail
  have hN := rnum_any W2 br y1.2 0 HR2.out
  rw [HY2.out] at hN
  refine hN.mono ?_
  clear hN
  rintro e v2 ⟨rfl, hr, hk⟩
  have ht0 := HT2.out.keeps hk n1
  have g0 := ht0.free 2
  have q0 := ht0.cell (i := 2) rfl
  obtain ⟨W3, hW⟩ : ∃ W3, (v2.setCell ⟨bt, 2, none⟩ (.int .i64 y2.1)) = W3 := ⟨_, rfl⟩
  have hk2 : Keeps (· = bt) v2 W3 := by rw [← hW]; exact (Keeps.refl (· = bt) v2).setCell (p := ⟨bt, 2, none⟩) (fun _ => rfl) _
  have ht : Blk W3 bt 51 [.string y0.1, .int .i64 y1.1, .int .i64 y2.1] := by rw [← hW]; exact (ht0).set_ 2 _
  have hz2 : W3.heap.size = v2.heap.size := by rw [← hW]; simp [World.setCell]
  have hzk := hk.size
  have hKW := HK2.out.size
  have hbtl : bt < W2.heap.size := HT2.out.lt
  have HR3 := Lib.hid (hr.keeps hk2 n3)
  have H23 := Lib.hid ((H22.out.keeps hk HNb.out).keeps hk2 n4)
  have HT3 := Lib.hid ht
  have HK3 : Hid (Keeps (· = br) W0 W3) := (HK2.out.trans hk (fun _ _ h => h)).trans hk2 (fun i hi h => by have := HBd.out.2.2; omega)
  have HW3 := Lib.hid hW
  clear hW hk2 ht hz2 hzk hKW hbtl hr hk ht0 HR2 H22 HT2 HK2 
  go_upto_region 4 with (fail)
  rw [HW3.out]
  clear g0 q0
  have t0 := HT3.out.cell (i := 0) rfl
  have x0 := H23.out.cell (i := 0) rfl
  have z0 := H23.out.free 0
  have t1 := HT3.out.cell (i := 1) rfl
  have x1 := H23.out.cell (i := 1) rfl
  have z1 := H23.out.free 1
  have t2 := HT3.out.cell (i := 2) rfl
  have x2 := H23.out.cell (i := 2) rfl
  have z2 := H23.out.free 2
  go_wp2_with fail
  have hkf : Keeps (· = b2) W3 (((W3.setCell ⟨b2, 0, none⟩ (.string y0.1)).setCell ⟨b2, 1, none⟩ (.int .i64 y1.1)).setCell ⟨b2, 2, none⟩ (.int .i64 y2.1)) := (((Keeps.refl (· = b2) W3).setCell (p := ⟨b2, 0, none⟩) (fun _ => rfl) _).setCell (p := ⟨b2, 1, none⟩) (fun _ => rfl) _).setCell (p := ⟨b2, 2, none⟩) (fun _ => rfl) _
  have hzf : (((W3.setCell ⟨b2, 0, none⟩ (.string y0.1)).setCell ⟨b2, 1, none⟩ (.int .i64 y1.1)).setCell ⟨b2, 2, none⟩ (.int .i64 y2.1)).heap.size = W3.heap.size := by simp [World.setCell]
  have hbf : Blk (((W3.setCell ⟨b2, 0, none⟩ (.string y0.1)).setCell ⟨b2, 1, none⟩ (.int .i64 y1.1)).setCell ⟨b2, 2, none⟩ (.int .i64 y2.1)) b2 51 [.string y0.1, .int .i64 y1.1, .int .i64 y2.1] := (((H23.out).set_ 0 _).set_ 1 _).set_ 2 _
  have hb2l := HB0.out.2
  have hb0l := HB0.out.1
  have hk0 := HKw.out.size
  have e1 := HB2.out
  generalize (((W3.setCell ⟨b2, 0, none⟩ (.string y0.1)).setCell ⟨b2, 1, none⟩ (.int .i64 y1.1)).setCell ⟨b2, 2, none⟩ (.int .i64 y2.1)) = wf at hkf hzf hbf
  refine ret_row rfl rfl hbf Tryd.underlying51 (by kernel_rfl) rfl ?_
  exact ⟨[.string y0.1, .int .i64 y1.1, .int .i64 y2.1], rfl, FixSig.rp.2 ⟨rfl, HWf0.out, HWf1.out, HWf2.out⟩, HR3.out.keeps hkf (fun h => by have := HNb.out; omega), ((HKw.out.mono (fun _ _ h => h.elim)).trans HK3.out (fun _ _ h => h)).trans hkf (fun i hi h => by omega)⟩
theorem classR_len : Short classR := fun r => by
  have h0 := textR_len r
  obtain ⟨y0, e0⟩ : ∃ y, textR r = y := ⟨_, rfl⟩
  rw [e0] at h0
  have h1 := (allR_len textR_len) y0.2
  obtain ⟨y1, e1⟩ : ∃ y, allR textR y0.2 = y := ⟨_, rfl⟩
  rw [e1] at h1
  have h2 := (allR_len valR_len) y1.2
  obtain ⟨y2, e2⟩ : ∃ y, allR valR y1.2 = y := ⟨_, rfl⟩
  rw [e2] at h2
  have hy : (classR r).2 = y2.2 := by unfold classR; dsimp only; rw [e0, e1, e2]
  rw [hy]
  omega
set_option maxRecDepth 100000 in
set_option maxHeartbeats 8000000 in
theorem rclass_fn (br : Nat) : RFn 20 #[.pointer (some ⟨br, 0, none⟩)] argA ClassSig.d classR br 0 := by
  intro W r hr hl
  obtain ⟨y0, e0⟩ : ∃ y, textR r = y := ⟨_, rfl⟩
  obtain ⟨y1, e1⟩ : ∃ y, allR textR y0.2 = y := ⟨_, rfl⟩
  obtain ⟨y2, e2⟩ : ∃ y, allR valR y1.2 = y := ⟨_, rfl⟩
  have hy : classR r = (⟨y0.1, y1.1, y2.1⟩, y2.2) := by unfold classR; dsimp only; rw [e0, e1, e2]
  rw [hy]
  clear hy
  have l0 : y0.2.s.length ≤ 1048576 := by have h := textR_len r; rw [e0] at h; omega
  have w0 : y0.1.size ≤ maxLen := by have h := textR_size r; rw [e0] at h; unfold maxLen; omega
  have l1 : y1.2.s.length ≤ 1048576 := by have h := (allR_len textR_len) y0.2; rw [e1] at h; omega
  have l2 : y2.2.s.length ≤ 1048576 := by have h := (allR_len valR_len) y1.2; rw [e2] at h; omega
  have HLen := Lib.hid (show r.s.length ≤ 1048576 ∧ y0.2.s.length ≤ 1048576 ∧ y1.2.s.length ≤ 1048576 ∧ y2.2.s.length ≤ 1048576 ∧ True from ⟨hl, l0, l1, l2, trivial⟩)
  have HWf0 := Lib.hid w0
  have HY0 := Lib.hid e0
  have HY1 := Lib.hid e1
  have HY2 := Lib.hid e2
  have eg1 : Enters Tryd.prog 13 := enters_of Tryd.func13 (by kernel_rfl) rfl
  have HEg1 := Lib.hid eg1
  clear eg1
  have eg2 : Enters Tryd.prog 26 := enters_of Tryd.func26 (by kernel_rfl) rfl
  have HEg2 := Lib.hid eg2
  clear eg2
  clear e0 e1 e2 l0 l1 l2 w0
  obtain ⟨b2, hb2⟩ : ∃ b2, W.heap.size = b2 := ⟨_, rfl⟩
  obtain ⟨W0, hW0⟩ : ∃ W0, W.alloc (.cells #[.string ⟨#[]⟩, .slice none 0 0, .slice none 0 0] 74) = W0 := ⟨_, rfl⟩
  have hkw : Keeps (fun _ => False) W W0 := by rw [← hW0]; exact (Keeps.refl _ _).alloc _
  have h2 : Blk W0 b2 74 [.string ⟨#[]⟩, .slice none 0 0, .slice none 0 0] := by rw [← hW0, ← hb2]; exact Blk.new W _ [_, _, _]
  have hz0 : W0.heap.size = b2 + 1 := by rw [← hW0, ← hb2]; simp
  have hbl : br < W.heap.size := Blk.lt hr
  have hnb : ¬ b2 = br := by omega
  have hbd : br < W0.heap.size ∧ b2 < W0.heap.size := by omega
  have HNb := Lib.hid hnb
  have HB0 := Lib.hid hbd
  have HR0 := Lib.hid (hr.keeps hkw (fun h => h))
  have H20 := Lib.hid h2
  have HKw := Lib.hid hkw
  have HW0 := Lib.hid hW0
  have HB2 := Lib.hid hb2
  clear hr hl hb2 hW0 hkw h2 hz0 hbl hnb hbd
  go_enter Tryd.func20, Tryd.ntmps20
  go_upto_region 1 with (fail)
  rw [HW0.out, HB2.out]
  go_wp2_with fail
  have hN := rtext_any W0 br r 0 HR0.out HLen.out.1
  rw [HY0.out] at hN
  refine hN.mono ?_
  clear hN
  rintro e v0 ⟨rfl, hr, hk⟩
  obtain ⟨bt, hbt⟩ : ∃ bt, v0.heap.size = bt := ⟨_, rfl⟩
  obtain ⟨W1, hW1⟩ : ∃ W1, v0.alloc (.cells #[.string y0.1, .slice none 0 0, .slice none 0 0] 74) = W1 := ⟨_, rfl⟩
  have hk1 : Keeps (fun _ => False) v0 W1 := by rw [← hW1]; exact (Keeps.refl _ _).alloc _
  have ht : Blk W1 bt 74 [.string y0.1, .slice none 0 0, .slice none 0 0] := by rw [← hW1, ← hbt]; exact Blk.new v0 _ [_, _, _]
  have hKK : Keeps (· = br) W0 W1 := hk.trans hk1 (fun _ _ h => h.elim)
  have hzz := hk.size
  have hBd : br < W0.heap.size ∧ b2 < W0.heap.size ∧ W0.heap.size ≤ bt := ⟨HB0.out.1, HB0.out.2, by omega⟩
  have n1 : ¬ bt = br := by omega
  have n2 : ¬ bt = b2 := by omega
  have n3 : ¬ br = bt := by omega
  have n4 : ¬ b2 = bt := by omega
  have HR1 := Lib.hid (hr.keeps hk1 (fun h => h))
  have H21 := Lib.hid ((H20.out.keeps hk HNb.out).keeps hk1 (fun h => h))
  have HT1 := Lib.hid ht
  have HK1 := Lib.hid hKK
  have HBd := Lib.hid hBd
  have HW1 := Lib.hid hW1
  have HBt := Lib.hid hbt
  clear hr hk hk1 ht hKK hBd hW1 hbt hzz HR0 H20
  go_upto_region 2 with (fail)
  rw [HW1.out, HBt.out]
  go_wp2_with fail
  have hN := allStr_any br 0 13 #[.pointer (some ⟨br, 0, none⟩)] HEg1.out textR textR_len (rtext_fn br) W1 y0.2 HR1.out HLen.out.2.1
  rw [HY1.out] at hN
  refine hN.mono ?_
  clear hN
  rintro e v1 ⟨lv, rfl, hD, hr, hk⟩
  obtain ⟨A1, c1, rfl, -, -, -⟩ := hD.form
  have ht0 := HT1.out.keeps hk n1
  have g0 := ht0.free 1
  have q0 := ht0.cell (i := 1) rfl
  obtain ⟨W2, hW⟩ : ∃ W2, (v1.setCell ⟨bt, 1, none⟩ (.slice A1 y1.1.length c1)) = W2 := ⟨_, rfl⟩
  have hk2 : Keeps (· = bt) v1 W2 := by rw [← hW]; exact (Keeps.refl (· = bt) v1).setCell (p := ⟨bt, 1, none⟩) (fun _ => rfl) _
  have ht : Blk W2 bt 74 [.string y0.1, .slice A1 y1.1.length c1, .slice none 0 0] := by rw [← hW]; exact (ht0).set_ 1 _
  have hz2 : W2.heap.size = v1.heap.size := by rw [← hW]; simp [World.setCell]
  have hzk := hk.size
  have hKW := HK1.out.size
  have hbtl : bt < W1.heap.size := HT1.out.lt
  have HD1_2 := Lib.hid ((hD.keeps hk2 (fun i hi h => by have := hi.1; omega)).mono (G := fun b => (W0.heap.size ≤ b ∧ b < W2.heap.size) ∧ ¬ b = bt) (fun b hb => ⟨⟨by have := hb.1; omega, by have := hb.2; omega⟩, by have := hb.1; omega⟩))
  have HR2 := Lib.hid (hr.keeps hk2 n3)
  have H22 := Lib.hid ((H21.out.keeps hk HNb.out).keeps hk2 n4)
  have HT2 := Lib.hid ht
  have HK2 : Hid (Keeps (· = br) W0 W2) := (HK1.out.trans hk (fun _ _ h => h)).trans hk2 (fun i hi h => by have := HBd.out.2.2; omega)
  have HW2 := Lib.hid hW
  clear hW hk2 ht hz2 hzk hKW hbtl hr hk ht0 HR1 H21 HT1 HK1 hD
  go_upto_region 3 with (fail)
  rw [HW2.out]
  clear g0 q0
  go_wp2_with fail
  have hN := allValSig_any br 0 26 #[.pointer (some ⟨br, 0, none⟩)] HEg2.out valR valR_len (rval_fn br) W2 y1.2 HR2.out HLen.out.2.2.1
  rw [HY2.out] at hN
  refine hN.mono ?_
  clear hN
  rintro e v2 ⟨lv, rfl, hD, hr, hk⟩
  obtain ⟨A2, c2, rfl, -, -, -⟩ := hD.form
  have ht0 := HT2.out.keeps hk n1
  have g0 := ht0.free 2
  have q0 := ht0.cell (i := 2) rfl
  obtain ⟨W3, hW⟩ : ∃ W3, (v2.setCell ⟨bt, 2, none⟩ (.slice A2 y2.1.length c2)) = W3 := ⟨_, rfl⟩
  have hk2 : Keeps (· = bt) v2 W3 := by rw [← hW]; exact (Keeps.refl (· = bt) v2).setCell (p := ⟨bt, 2, none⟩) (fun _ => rfl) _
  have ht : Blk W3 bt 74 [.string y0.1, .slice A1 y1.1.length c1, .slice A2 y2.1.length c2] := by rw [← hW]; exact (ht0).set_ 2 _
  have hz2 : W3.heap.size = v2.heap.size := by rw [← hW]; simp [World.setCell]
  have hzk := hk.size
  have hKW := HK2.out.size
  have hbtl : bt < W2.heap.size := HT2.out.lt
  have HD1_3 := Lib.hid (((HD1_2.out.keeps hk (fun i hi h => by have := hi.1.1; have := HBd.out.1; omega)).keeps hk2 (fun i hi h => hi.2 h)).mono (G := fun b => (W0.heap.size ≤ b ∧ b < W3.heap.size) ∧ ¬ b = bt) (fun b hb => ⟨⟨hb.1.1, by have := hb.1.2; omega⟩, hb.2⟩))
  have HD2_3 := Lib.hid ((hD.keeps hk2 (fun i hi h => by have := hi.1; omega)).mono (G := fun b => (W0.heap.size ≤ b ∧ b < W3.heap.size) ∧ ¬ b = bt) (fun b hb => ⟨⟨by have := hb.1; omega, by have := hb.2; omega⟩, by have := hb.1; omega⟩))
  have HR3 := Lib.hid (hr.keeps hk2 n3)
  have H23 := Lib.hid ((H22.out.keeps hk HNb.out).keeps hk2 n4)
  have HT3 := Lib.hid ht
  have HK3 : Hid (Keeps (· = br) W0 W3) := (HK2.out.trans hk (fun _ _ h => h)).trans hk2 (fun i hi h => by have := HBd.out.2.2; omega)
  have HW3 := Lib.hid hW
  clear hW hk2 ht hz2 hzk hKW hbtl hr hk ht0 HR2 H22 HT2 HK2 HD1_2 hD
  go_upto_region 4 with (fail)
  rw [HW3.out]
  clear g0 q0
  have t0 := HT3.out.cell (i := 0) rfl
  have x0 := H23.out.cell (i := 0) rfl
  have z0 := H23.out.free 0
  have t1 := HT3.out.cell (i := 1) rfl
  have x1 := H23.out.cell (i := 1) rfl
  have z1 := H23.out.free 1
  have t2 := HT3.out.cell (i := 2) rfl
  have x2 := H23.out.cell (i := 2) rfl
  have z2 := H23.out.free 2
  go_wp2_with fail
  have hkf : Keeps (· = b2) W3 (((W3.setCell ⟨b2, 0, none⟩ (.string y0.1)).setCell ⟨b2, 1, none⟩ (.slice A1 y1.1.length c1)).setCell ⟨b2, 2, none⟩ (.slice A2 y2.1.length c2)) := (((Keeps.refl (· = b2) W3).setCell (p := ⟨b2, 0, none⟩) (fun _ => rfl) _).setCell (p := ⟨b2, 1, none⟩) (fun _ => rfl) _).setCell (p := ⟨b2, 2, none⟩) (fun _ => rfl) _
  have hzf : (((W3.setCell ⟨b2, 0, none⟩ (.string y0.1)).setCell ⟨b2, 1, none⟩ (.slice A1 y1.1.length c1)).setCell ⟨b2, 2, none⟩ (.slice A2 y2.1.length c2)).heap.size = W3.heap.size := by simp [World.setCell]
  have hbf : Blk (((W3.setCell ⟨b2, 0, none⟩ (.string y0.1)).setCell ⟨b2, 1, none⟩ (.slice A1 y1.1.length c1)).setCell ⟨b2, 2, none⟩ (.slice A2 y2.1.length c2)) b2 74 [.string y0.1, .slice A1 y1.1.length c1, .slice A2 y2.1.length c2] := (((H23.out).set_ 0 _).set_ 1 _).set_ 2 _
  have hb2l := HB0.out.2
  have hb0l := HB0.out.1
  have hk0 := HKw.out.size
  have e1 := HB2.out
  generalize (((W3.setCell ⟨b2, 0, none⟩ (.string y0.1)).setCell ⟨b2, 1, none⟩ (.slice A1 y1.1.length c1)).setCell ⟨b2, 2, none⟩ (.slice A2 y2.1.length c2)) = wf at hkf hzf hbf
  refine ret_row rfl rfl hbf Tryd.underlying74 (by kernel_rfl) rfl ?_
  exact ⟨[.string y0.1, .slice A1 y1.1.length c1, .slice A2 y2.1.length c2], rfl, ClassSig.rp.2 ⟨_, _, rfl, HWf0.out, (HD1_3.out.keeps hkf (fun i hi h => by have := hi.1.1; omega)).mono (fun b hb => ⟨by have := hb.1.1; omega, by have := hb.1.2; omega⟩), (HD2_3.out.keeps hkf (fun i hi h => by have := hi.1.1; omega)).mono (fun b hb => ⟨by have := hb.1.1; omega, by have := hb.1.2; omega⟩)⟩, HR3.out.keeps hkf (fun h => by have := HNb.out; omega), ((HKw.out.mono (fun _ _ h => h.elim)).trans HK3.out (fun _ _ h => h)).trans hkf (fun i hi h => by omega)⟩
theorem instR_len : Short instR := fun r => by
  have h0 := textR_len r
  obtain ⟨y0, e0⟩ : ∃ y, textR r = y := ⟨_, rfl⟩
  rw [e0] at h0
  have h1 := typ0_len y0.2
  obtain ⟨y1, e1⟩ : ∃ y, typ0 y0.2 = y := ⟨_, rfl⟩
  rw [e1] at h1
  have h2 := (allR_len predR_len) y1.2
  obtain ⟨y2, e2⟩ : ∃ y, allR predR y1.2 = y := ⟨_, rfl⟩
  rw [e2] at h2
  have hy : (instR r).2 = y2.2 := by unfold instR; dsimp only; rw [e0, e1, e2]
  rw [hy]
  omega
set_option maxRecDepth 100000 in
set_option maxHeartbeats 8000000 in
theorem rinst_fn (br : Nat) : RFn 22 #[.pointer (some ⟨br, 0, none⟩)] argA InstSig.d instR br 0 := by
  intro W r hr hl
  obtain ⟨y0, e0⟩ : ∃ y, textR r = y := ⟨_, rfl⟩
  obtain ⟨y1, e1⟩ : ∃ y, typ0 y0.2 = y := ⟨_, rfl⟩
  obtain ⟨y2, e2⟩ : ∃ y, allR predR y1.2 = y := ⟨_, rfl⟩
  have hy : instR r = (⟨y0.1, y1.1, y2.1⟩, y2.2) := by unfold instR; dsimp only; rw [e0, e1, e2]
  rw [hy]
  clear hy
  have l0 : y0.2.s.length ≤ 1048576 := by have h := textR_len r; rw [e0] at h; omega
  have w0 : y0.1.size ≤ maxLen := by have h := textR_size r; rw [e0] at h; unfold maxLen; omega
  have l1 : y1.2.s.length ≤ 1048576 := by have h := typ0_len y0.2; rw [e1] at h; omega
  have l2 : y2.2.s.length ≤ 1048576 := by have h := (allR_len predR_len) y1.2; rw [e2] at h; omega
  have HLen := Lib.hid (show r.s.length ≤ 1048576 ∧ y0.2.s.length ≤ 1048576 ∧ y1.2.s.length ≤ 1048576 ∧ y2.2.s.length ≤ 1048576 ∧ True from ⟨hl, l0, l1, l2, trivial⟩)
  have HWf0 := Lib.hid w0
  have HY0 := Lib.hid e0
  have HY1 := Lib.hid e1
  have HY2 := Lib.hid e2
  have eg2 : Enters Tryd.prog 55 := enters_of Tryd.func55 (by kernel_rfl) rfl
  have HEg2 := Lib.hid eg2
  clear eg2
  clear e0 e1 e2 l0 l1 l2 w0
  obtain ⟨b2, hb2⟩ : ∃ b2, W.heap.size = b2 := ⟨_, rfl⟩
  obtain ⟨W0, hW0⟩ : ∃ W0, W.alloc (.cells #[.string ⟨#[]⟩, .int .i64 0, .string ⟨#[]⟩, .int .i64 0, .slice none 0 0, .slice none 0 0] 78) = W0 := ⟨_, rfl⟩
  have hkw : Keeps (fun _ => False) W W0 := by rw [← hW0]; exact (Keeps.refl _ _).alloc _
  have h2 : Blk W0 b2 78 [.string ⟨#[]⟩, .int .i64 0, .string ⟨#[]⟩, .int .i64 0, .slice none 0 0, .slice none 0 0] := by rw [← hW0, ← hb2]; exact Blk.new W _ [_, _, _, _, _, _]
  have hz0 : W0.heap.size = b2 + 1 := by rw [← hW0, ← hb2]; simp
  have hbl : br < W.heap.size := Blk.lt hr
  have hnb : ¬ b2 = br := by omega
  have hbd : br < W0.heap.size ∧ b2 < W0.heap.size := by omega
  have HNb := Lib.hid hnb
  have HB0 := Lib.hid hbd
  have HR0 := Lib.hid (hr.keeps hkw (fun h => h))
  have H20 := Lib.hid h2
  have HKw := Lib.hid hkw
  have HW0 := Lib.hid hW0
  have HB2 := Lib.hid hb2
  clear hr hl hb2 hW0 hkw h2 hz0 hbl hnb hbd
  go_enter Tryd.func22, Tryd.ntmps22
  go_upto_region 1 with (fail)
  rw [HW0.out, HB2.out]
  go_wp2_with fail
  have hN := rtext_any W0 br r 0 HR0.out HLen.out.1
  rw [HY0.out] at hN
  refine hN.mono ?_
  clear hN
  rintro e v0 ⟨rfl, hr, hk⟩
  obtain ⟨bt, hbt⟩ : ∃ bt, v0.heap.size = bt := ⟨_, rfl⟩
  obtain ⟨W1, hW1⟩ : ∃ W1, v0.alloc (.cells #[.string y0.1, .int .i64 0, .string ⟨#[]⟩, .int .i64 0, .slice none 0 0, .slice none 0 0] 78) = W1 := ⟨_, rfl⟩
  have hk1 : Keeps (fun _ => False) v0 W1 := by rw [← hW1]; exact (Keeps.refl _ _).alloc _
  have ht : Blk W1 bt 78 [.string y0.1, .int .i64 0, .string ⟨#[]⟩, .int .i64 0, .slice none 0 0, .slice none 0 0] := by rw [← hW1, ← hbt]; exact Blk.new v0 _ [_, _, _, _, _, _]
  have hKK : Keeps (· = br) W0 W1 := hk.trans hk1 (fun _ _ h => h.elim)
  have hzz := hk.size
  have hBd : br < W0.heap.size ∧ b2 < W0.heap.size ∧ W0.heap.size ≤ bt := ⟨HB0.out.1, HB0.out.2, by omega⟩
  have n1 : ¬ bt = br := by omega
  have n2 : ¬ bt = b2 := by omega
  have n3 : ¬ br = bt := by omega
  have n4 : ¬ b2 = bt := by omega
  have HR1 := Lib.hid (hr.keeps hk1 (fun h => h))
  have H21 := Lib.hid ((H20.out.keeps hk HNb.out).keeps hk1 (fun h => h))
  have HT1 := Lib.hid ht
  have HK1 := Lib.hid hKK
  have HBd := Lib.hid hBd
  have HW1 := Lib.hid hW1
  have HBt := Lib.hid hbt
  clear hr hk hk1 ht hKK hBd hW1 hbt hzz HR0 H20
  go_upto_region 2 with (fail)
  rw [HW1.out, HBt.out]
  go_wp2_with fail
  have hN := rtyp_fn br W1 y0.2 HR1.out HLen.out.2.1
  rw [HY1.out] at hN
  refine hN.mono ?_
  clear hN
  rintro e v1 ⟨cs, rfl, hRp, hr, hk⟩
  obtain ⟨av, rfl, hD⟩ := tyD.rp.1 hRp
  obtain ⟨A1, c1, rfl, -, -, -⟩ := hD.form
  unfold argA
  unfold Ty.cells
  have ht0 := HT1.out.keeps hk n1
  have g0 := ht0.free 1
  have q0 := ht0.cell (i := 1) rfl
  have g1 := ht0.free 2
  have q1 := ht0.cell (i := 2) rfl
  have g2 := ht0.free 3
  have q2 := ht0.cell (i := 3) rfl
  have g3 := ht0.free 4
  have q3 := ht0.cell (i := 4) rfl
  obtain ⟨W2, hW⟩ : ∃ W2, ((((v1.setCell ⟨bt, 1, none⟩ (.int .i64 y1.1.kind)).setCell ⟨bt, 2, none⟩ (.string y1.1.name)).setCell ⟨bt, 3, none⟩ (.int .i64 y1.1.var)).setCell ⟨bt, 4, none⟩ (.slice A1 y1.1.args.length c1)) = W2 := ⟨_, rfl⟩
  have hk2 : Keeps (· = bt) v1 W2 := by rw [← hW]; exact ((((Keeps.refl (· = bt) v1).setCell (p := ⟨bt, 1, none⟩) (fun _ => rfl) _).setCell (p := ⟨bt, 2, none⟩) (fun _ => rfl) _).setCell (p := ⟨bt, 3, none⟩) (fun _ => rfl) _).setCell (p := ⟨bt, 4, none⟩) (fun _ => rfl) _
  have ht : Blk W2 bt 78 [.string y0.1, .int .i64 y1.1.kind, .string y1.1.name, .int .i64 y1.1.var, .slice A1 y1.1.args.length c1, .slice none 0 0] := by rw [← hW]; exact ((((ht0).set_ 1 _).set_ 2 _).set_ 3 _).set_ 4 _
  have hz2 : W2.heap.size = v1.heap.size := by rw [← hW]; simp [World.setCell]
  have hzk := hk.size
  have hKW := HK1.out.size
  have hbtl : bt < W1.heap.size := HT1.out.lt
  have HD1_2 := Lib.hid ((hD.keeps hk2 (fun i hi h => by have := hi.1; omega)).mono (G := fun b => (W0.heap.size ≤ b ∧ b < W2.heap.size) ∧ ¬ b = bt) (fun b hb => ⟨⟨by have := hb.1; omega, by have := hb.2; omega⟩, by have := hb.1; omega⟩))
  have HR2 := Lib.hid (hr.keeps hk2 n3)
  have H22 := Lib.hid ((H21.out.keeps hk HNb.out).keeps hk2 n4)
  have HT2 := Lib.hid ht
  have HK2 : Hid (Keeps (· = br) W0 W2) := (HK1.out.trans hk (fun _ _ h => h)).trans hk2 (fun i hi h => by have := HBd.out.2.2; omega)
  have HW2 := Lib.hid hW
  clear hW hk2 ht hz2 hzk hKW hbtl hr hk ht0 HR1 H21 HT1 HK1 hD hRp
  go_upto_region 3 with (fail)
  rw [HW2.out]
  clear g0 q0 g1 q1 g2 q2 g3 q3
  go_wp2_with fail
  have hN := allPred_any br 0 55 #[.pointer (some ⟨br, 0, none⟩)] HEg2.out predR predR_len (rpred_fn br) W2 y1.2 HR2.out HLen.out.2.2.1
  rw [HY2.out] at hN
  refine hN.mono ?_
  clear hN
  rintro e v2 ⟨lv, rfl, hD, hr, hk⟩
  obtain ⟨A2, c2, rfl, -, -, -⟩ := hD.form
  have ht0 := HT2.out.keeps hk n1
  have g0 := ht0.free 5
  have q0 := ht0.cell (i := 5) rfl
  obtain ⟨W3, hW⟩ : ∃ W3, (v2.setCell ⟨bt, 5, none⟩ (.slice A2 y2.1.length c2)) = W3 := ⟨_, rfl⟩
  have hk2 : Keeps (· = bt) v2 W3 := by rw [← hW]; exact (Keeps.refl (· = bt) v2).setCell (p := ⟨bt, 5, none⟩) (fun _ => rfl) _
  have ht : Blk W3 bt 78 [.string y0.1, .int .i64 y1.1.kind, .string y1.1.name, .int .i64 y1.1.var, .slice A1 y1.1.args.length c1, .slice A2 y2.1.length c2] := by rw [← hW]; exact (ht0).set_ 5 _
  have hz2 : W3.heap.size = v2.heap.size := by rw [← hW]; simp [World.setCell]
  have hzk := hk.size
  have hKW := HK2.out.size
  have hbtl : bt < W2.heap.size := HT2.out.lt
  have HD1_3 := Lib.hid (((HD1_2.out.keeps hk (fun i hi h => by have := hi.1.1; have := HBd.out.1; omega)).keeps hk2 (fun i hi h => hi.2 h)).mono (G := fun b => (W0.heap.size ≤ b ∧ b < W3.heap.size) ∧ ¬ b = bt) (fun b hb => ⟨⟨hb.1.1, by have := hb.1.2; omega⟩, hb.2⟩))
  have HD2_3 := Lib.hid ((hD.keeps hk2 (fun i hi h => by have := hi.1; omega)).mono (G := fun b => (W0.heap.size ≤ b ∧ b < W3.heap.size) ∧ ¬ b = bt) (fun b hb => ⟨⟨by have := hb.1; omega, by have := hb.2; omega⟩, by have := hb.1; omega⟩))
  have HR3 := Lib.hid (hr.keeps hk2 n3)
  have H23 := Lib.hid ((H22.out.keeps hk HNb.out).keeps hk2 n4)
  have HT3 := Lib.hid ht
  have HK3 : Hid (Keeps (· = br) W0 W3) := (HK2.out.trans hk (fun _ _ h => h)).trans hk2 (fun i hi h => by have := HBd.out.2.2; omega)
  have HW3 := Lib.hid hW
  clear hW hk2 ht hz2 hzk hKW hbtl hr hk ht0 HR2 H22 HT2 HK2 HD1_2 hD
  go_upto_region 4 with (fail)
  rw [HW3.out]
  clear g0 q0
  have t0 := HT3.out.cell (i := 0) rfl
  have x0 := H23.out.cell (i := 0) rfl
  have z0 := H23.out.free 0
  have t1 := HT3.out.cell (i := 1) rfl
  have x1 := H23.out.cell (i := 1) rfl
  have z1 := H23.out.free 1
  have t2 := HT3.out.cell (i := 2) rfl
  have x2 := H23.out.cell (i := 2) rfl
  have z2 := H23.out.free 2
  have t3 := HT3.out.cell (i := 3) rfl
  have x3 := H23.out.cell (i := 3) rfl
  have z3 := H23.out.free 3
  have t4 := HT3.out.cell (i := 4) rfl
  have x4 := H23.out.cell (i := 4) rfl
  have z4 := H23.out.free 4
  have t5 := HT3.out.cell (i := 5) rfl
  have x5 := H23.out.cell (i := 5) rfl
  have z5 := H23.out.free 5
  go_wp2_with fail
  have hkf : Keeps (· = b2) W3 ((((((W3.setCell ⟨b2, 0, none⟩ (.string y0.1)).setCell ⟨b2, 1, none⟩ (.int .i64 y1.1.kind)).setCell ⟨b2, 2, none⟩ (.string y1.1.name)).setCell ⟨b2, 3, none⟩ (.int .i64 y1.1.var)).setCell ⟨b2, 4, none⟩ (.slice A1 y1.1.args.length c1)).setCell ⟨b2, 5, none⟩ (.slice A2 y2.1.length c2)) := ((((((Keeps.refl (· = b2) W3).setCell (p := ⟨b2, 0, none⟩) (fun _ => rfl) _).setCell (p := ⟨b2, 1, none⟩) (fun _ => rfl) _).setCell (p := ⟨b2, 2, none⟩) (fun _ => rfl) _).setCell (p := ⟨b2, 3, none⟩) (fun _ => rfl) _).setCell (p := ⟨b2, 4, none⟩) (fun _ => rfl) _).setCell (p := ⟨b2, 5, none⟩) (fun _ => rfl) _
  have hzf : ((((((W3.setCell ⟨b2, 0, none⟩ (.string y0.1)).setCell ⟨b2, 1, none⟩ (.int .i64 y1.1.kind)).setCell ⟨b2, 2, none⟩ (.string y1.1.name)).setCell ⟨b2, 3, none⟩ (.int .i64 y1.1.var)).setCell ⟨b2, 4, none⟩ (.slice A1 y1.1.args.length c1)).setCell ⟨b2, 5, none⟩ (.slice A2 y2.1.length c2)).heap.size = W3.heap.size := by simp [World.setCell]
  have hbf : Blk ((((((W3.setCell ⟨b2, 0, none⟩ (.string y0.1)).setCell ⟨b2, 1, none⟩ (.int .i64 y1.1.kind)).setCell ⟨b2, 2, none⟩ (.string y1.1.name)).setCell ⟨b2, 3, none⟩ (.int .i64 y1.1.var)).setCell ⟨b2, 4, none⟩ (.slice A1 y1.1.args.length c1)).setCell ⟨b2, 5, none⟩ (.slice A2 y2.1.length c2)) b2 78 [.string y0.1, .int .i64 y1.1.kind, .string y1.1.name, .int .i64 y1.1.var, .slice A1 y1.1.args.length c1, .slice A2 y2.1.length c2] := ((((((H23.out).set_ 0 _).set_ 1 _).set_ 2 _).set_ 3 _).set_ 4 _).set_ 5 _
  have hb2l := HB0.out.2
  have hb0l := HB0.out.1
  have hk0 := HKw.out.size
  have e1 := HB2.out
  generalize ((((((W3.setCell ⟨b2, 0, none⟩ (.string y0.1)).setCell ⟨b2, 1, none⟩ (.int .i64 y1.1.kind)).setCell ⟨b2, 2, none⟩ (.string y1.1.name)).setCell ⟨b2, 3, none⟩ (.int .i64 y1.1.var)).setCell ⟨b2, 4, none⟩ (.slice A1 y1.1.args.length c1)).setCell ⟨b2, 5, none⟩ (.slice A2 y2.1.length c2)) = wf at hkf hzf hbf
  refine ret_row rfl rfl hbf Tryd.underlying78 (by kernel_rfl) rfl ?_
  exact ⟨[.string y0.1, .int .i64 y1.1.kind, .string y1.1.name, .int .i64 y1.1.var, .slice A1 y1.1.args.length c1, .slice A2 y2.1.length c2], rfl, InstSig.rp.2 ⟨_, _, rfl, HWf0.out, (HD1_3.out.keeps hkf (fun i hi h => by have := hi.1.1; omega)).mono (fun b hb => ⟨by have := hb.1.1; omega, by have := hb.1.2; omega⟩), (HD2_3.out.keeps hkf (fun i hi h => by have := hi.1.1; omega)).mono (fun b hb => ⟨by have := hb.1.1; omega, by have := hb.1.2; omega⟩)⟩, HR3.out.keeps hkf (fun h => by have := HNb.out; omega), ((HKw.out.mono (fun _ _ h => h.elim)).trans HK3.out (fun _ _ h => h)).trans hkf (fun i hi h => by omega)⟩
theorem opR_len : Short opR := fun r => by
  have h0 := textR_len r
  obtain ⟨y0, e0⟩ : ∃ y, textR r = y := ⟨_, rfl⟩
  rw [e0] at h0
  have h1 := textR_len y0.2
  obtain ⟨y1, e1⟩ : ∃ y, textR y0.2 = y := ⟨_, rfl⟩
  rw [e1] at h1
  have h2 := typ0_len y1.2
  obtain ⟨y2, e2⟩ : ∃ y, typ0 y1.2 = y := ⟨_, rfl⟩
  rw [e2] at h2
  have h3 := typ0_len y2.2
  obtain ⟨y3, e3⟩ : ∃ y, typ0 y2.2 = y := ⟨_, rfl⟩
  rw [e3] at h3
  have hy : (opR r).2 = y3.2 := by unfold opR; dsimp only; rw [e0, e1, e2, e3]
  rw [hy]
  omega
set_option maxRecDepth 100000 in
set_option maxHeartbeats 8000000 in
theorem rop_fn (br : Nat) : RFn 24 #[.pointer (some ⟨br, 0, none⟩)] argA OpSig.d opR br 0 := by
  intro W r hr hl
  obtain ⟨y0, e0⟩ : ∃ y, textR r = y := ⟨_, rfl⟩
  obtain ⟨y1, e1⟩ : ∃ y, textR y0.2 = y := ⟨_, rfl⟩
  obtain ⟨y2, e2⟩ : ∃ y, typ0 y1.2 = y := ⟨_, rfl⟩
  obtain ⟨y3, e3⟩ : ∃ y, typ0 y2.2 = y := ⟨_, rfl⟩
  have hy : opR r = (⟨y0.1, y1.1, y2.1, y3.1⟩, y3.2) := by unfold opR; dsimp only; rw [e0, e1, e2, e3]
  rw [hy]
  clear hy
  have l0 : y0.2.s.length ≤ 1048576 := by have h := textR_len r; rw [e0] at h; omega
  have w0 : y0.1.size ≤ maxLen := by have h := textR_size r; rw [e0] at h; unfold maxLen; omega
  have l1 : y1.2.s.length ≤ 1048576 := by have h := textR_len y0.2; rw [e1] at h; omega
  have w1 : y1.1.size ≤ maxLen := by have h := textR_size y0.2; rw [e1] at h; unfold maxLen; omega
  have l2 : y2.2.s.length ≤ 1048576 := by have h := typ0_len y1.2; rw [e2] at h; omega
  have l3 : y3.2.s.length ≤ 1048576 := by have h := typ0_len y2.2; rw [e3] at h; omega
  have HLen := Lib.hid (show r.s.length ≤ 1048576 ∧ y0.2.s.length ≤ 1048576 ∧ y1.2.s.length ≤ 1048576 ∧ y2.2.s.length ≤ 1048576 ∧ y3.2.s.length ≤ 1048576 ∧ True from ⟨hl, l0, l1, l2, l3, trivial⟩)
  have HWf0 := Lib.hid w0
  have HWf1 := Lib.hid w1
  have HY0 := Lib.hid e0
  have HY1 := Lib.hid e1
  have HY2 := Lib.hid e2
  have HY3 := Lib.hid e3
  clear e0 e1 e2 e3 l0 l1 l2 l3 w0 w1
  obtain ⟨b2, hb2⟩ : ∃ b2, W.heap.size = b2 := ⟨_, rfl⟩
  obtain ⟨W0, hW0⟩ : ∃ W0, W.alloc (.cells #[.string ⟨#[]⟩, .string ⟨#[]⟩, .int .i64 0, .string ⟨#[]⟩, .int .i64 0, .slice none 0 0, .int .i64 0, .string ⟨#[]⟩, .int .i64 0, .slice none 0 0] 82) = W0 := ⟨_, rfl⟩
  have hkw : Keeps (fun _ => False) W W0 := by rw [← hW0]; exact (Keeps.refl _ _).alloc _
  have h2 : Blk W0 b2 82 [.string ⟨#[]⟩, .string ⟨#[]⟩, .int .i64 0, .string ⟨#[]⟩, .int .i64 0, .slice none 0 0, .int .i64 0, .string ⟨#[]⟩, .int .i64 0, .slice none 0 0] := by rw [← hW0, ← hb2]; exact Blk.new W _ [_, _, _, _, _, _, _, _, _, _]
  have hz0 : W0.heap.size = b2 + 1 := by rw [← hW0, ← hb2]; simp
  have hbl : br < W.heap.size := Blk.lt hr
  have hnb : ¬ b2 = br := by omega
  have hbd : br < W0.heap.size ∧ b2 < W0.heap.size := by omega
  have HNb := Lib.hid hnb
  have HB0 := Lib.hid hbd
  have HR0 := Lib.hid (hr.keeps hkw (fun h => h))
  have H20 := Lib.hid h2
  have HKw := Lib.hid hkw
  have HW0 := Lib.hid hW0
  have HB2 := Lib.hid hb2
  clear hr hl hb2 hW0 hkw h2 hz0 hbl hnb hbd
  go_enter Tryd.func24, Tryd.ntmps24
  go_upto_region 1 with (fail)
  rw [HW0.out, HB2.out]
  go_wp2_with fail
  have hN := rtext_any W0 br r 0 HR0.out HLen.out.1
  rw [HY0.out] at hN
  refine hN.mono ?_
  clear hN
  rintro e v0 ⟨rfl, hr, hk⟩
  obtain ⟨bt, hbt⟩ : ∃ bt, v0.heap.size = bt := ⟨_, rfl⟩
  obtain ⟨W1, hW1⟩ : ∃ W1, v0.alloc (.cells #[.string y0.1, .string ⟨#[]⟩, .int .i64 0, .string ⟨#[]⟩, .int .i64 0, .slice none 0 0, .int .i64 0, .string ⟨#[]⟩, .int .i64 0, .slice none 0 0] 82) = W1 := ⟨_, rfl⟩
  have hk1 : Keeps (fun _ => False) v0 W1 := by rw [← hW1]; exact (Keeps.refl _ _).alloc _
  have ht : Blk W1 bt 82 [.string y0.1, .string ⟨#[]⟩, .int .i64 0, .string ⟨#[]⟩, .int .i64 0, .slice none 0 0, .int .i64 0, .string ⟨#[]⟩, .int .i64 0, .slice none 0 0] := by rw [← hW1, ← hbt]; exact Blk.new v0 _ [_, _, _, _, _, _, _, _, _, _]
  have hKK : Keeps (· = br) W0 W1 := hk.trans hk1 (fun _ _ h => h.elim)
  have hzz := hk.size
  have hBd : br < W0.heap.size ∧ b2 < W0.heap.size ∧ W0.heap.size ≤ bt := ⟨HB0.out.1, HB0.out.2, by omega⟩
  have n1 : ¬ bt = br := by omega
  have n2 : ¬ bt = b2 := by omega
  have n3 : ¬ br = bt := by omega
  have n4 : ¬ b2 = bt := by omega
  have HR1 := Lib.hid (hr.keeps hk1 (fun h => h))
  have H21 := Lib.hid ((H20.out.keeps hk HNb.out).keeps hk1 (fun h => h))
  have HT1 := Lib.hid ht
  have HK1 := Lib.hid hKK
  have HBd := Lib.hid hBd
  have HW1 := Lib.hid hW1
  have HBt := Lib.hid hbt
  clear hr hk hk1 ht hKK hBd hW1 hbt hzz HR0 H20
  go_upto_region 2 with (fail)
  rw [HW1.out, HBt.out]
  go_wp2_with fail
  have hN := rtext_any W1 br y0.2 0 HR1.out HLen.out.2.1
  rw [HY1.out] at hN
  refine hN.mono ?_
  clear hN
  rintro e v1 ⟨rfl, hr, hk⟩
  have ht0 := HT1.out.keeps hk n1
  have g0 := ht0.free 1
  have q0 := ht0.cell (i := 1) rfl
  obtain ⟨W2, hW⟩ : ∃ W2, (v1.setCell ⟨bt, 1, none⟩ (.string y1.1)) = W2 := ⟨_, rfl⟩
  have hk2 : Keeps (· = bt) v1 W2 := by rw [← hW]; exact (Keeps.refl (· = bt) v1).setCell (p := ⟨bt, 1, none⟩) (fun _ => rfl) _
  have ht : Blk W2 bt 82 [.string y0.1, .string y1.1, .int .i64 0, .string ⟨#[]⟩, .int .i64 0, .slice none 0 0, .int .i64 0, .string ⟨#[]⟩, .int .i64 0, .slice none 0 0] := by rw [← hW]; exact (ht0).set_ 1 _
  have hz2 : W2.heap.size = v1.heap.size := by rw [← hW]; simp [World.setCell]
  have hzk := hk.size
  have hKW := HK1.out.size
  have hbtl : bt < W1.heap.size := HT1.out.lt
  have HR2 := Lib.hid (hr.keeps hk2 n3)
  have H22 := Lib.hid ((H21.out.keeps hk HNb.out).keeps hk2 n4)
  have HT2 := Lib.hid ht
  have HK2 : Hid (Keeps (· = br) W0 W2) := (HK1.out.trans hk (fun _ _ h => h)).trans hk2 (fun i hi h => by have := HBd.out.2.2; omega)
  have HW2 := Lib.hid hW
  clear hW hk2 ht hz2 hzk hKW hbtl hr hk ht0 HR1 H21 HT1 HK1 
  go_upto_region 3 with (fail)
  rw [HW2.out]
  clear g0 q0
  go_wp2_with fail
  have hN := rtyp_fn br W2 y1.2 HR2.out HLen.out.2.2.1
  rw [HY2.out] at hN
  refine hN.mono ?_
  clear hN
  rintro e v2 ⟨cs, rfl, hRp, hr, hk⟩
  obtain ⟨av, rfl, hD⟩ := tyD.rp.1 hRp
  obtain ⟨A2, c2, rfl, -, -, -⟩ := hD.form
  unfold argA
  unfold Ty.cells
  have ht0 := HT2.out.keeps hk n1
  have g0 := ht0.free 2
  have q0 := ht0.cell (i := 2) rfl
  have g1 := ht0.free 3
  have q1 := ht0.cell (i := 3) rfl
  have g2 := ht0.free 4
  have q2 := ht0.cell (i := 4) rfl
  have g3 := ht0.free 5
  have q3 := ht0.cell (i := 5) rfl
  obtain ⟨W3, hW⟩ : ∃ W3, ((((v2.setCell ⟨bt, 2, none⟩ (.int .i64 y2.1.kind)).setCell ⟨bt, 3, none⟩ (.string y2.1.name)).setCell ⟨bt, 4, none⟩ (.int .i64 y2.1.var)).setCell ⟨bt, 5, none⟩ (.slice A2 y2.1.args.length c2)) = W3 := ⟨_, rfl⟩
  have hk2 : Keeps (· = bt) v2 W3 := by rw [← hW]; exact ((((Keeps.refl (· = bt) v2).setCell (p := ⟨bt, 2, none⟩) (fun _ => rfl) _).setCell (p := ⟨bt, 3, none⟩) (fun _ => rfl) _).setCell (p := ⟨bt, 4, none⟩) (fun _ => rfl) _).setCell (p := ⟨bt, 5, none⟩) (fun _ => rfl) _
  have ht : Blk W3 bt 82 [.string y0.1, .string y1.1, .int .i64 y2.1.kind, .string y2.1.name, .int .i64 y2.1.var, .slice A2 y2.1.args.length c2, .int .i64 0, .string ⟨#[]⟩, .int .i64 0, .slice none 0 0] := by rw [← hW]; exact ((((ht0).set_ 2 _).set_ 3 _).set_ 4 _).set_ 5 _
  have hz2 : W3.heap.size = v2.heap.size := by rw [← hW]; simp [World.setCell]
  have hzk := hk.size
  have hKW := HK2.out.size
  have hbtl : bt < W2.heap.size := HT2.out.lt
  have HD2_3 := Lib.hid ((hD.keeps hk2 (fun i hi h => by have := hi.1; omega)).mono (G := fun b => (W0.heap.size ≤ b ∧ b < W3.heap.size) ∧ ¬ b = bt) (fun b hb => ⟨⟨by have := hb.1; omega, by have := hb.2; omega⟩, by have := hb.1; omega⟩))
  have HR3 := Lib.hid (hr.keeps hk2 n3)
  have H23 := Lib.hid ((H22.out.keeps hk HNb.out).keeps hk2 n4)
  have HT3 := Lib.hid ht
  have HK3 : Hid (Keeps (· = br) W0 W3) := (HK2.out.trans hk (fun _ _ h => h)).trans hk2 (fun i hi h => by have := HBd.out.2.2; omega)
  have HW3 := Lib.hid hW
  clear hW hk2 ht hz2 hzk hKW hbtl hr hk ht0 HR2 H22 HT2 HK2 hD hRp
  go_upto_region 4 with (fail)
  rw [HW3.out]
  clear g0 q0 g1 q1 g2 q2 g3 q3
  go_wp2_with fail
  have hN := rtyp_fn br W3 y2.2 HR3.out HLen.out.2.2.2.1
  rw [HY3.out] at hN
  refine hN.mono ?_
  clear hN
  rintro e v3 ⟨cs, rfl, hRp, hr, hk⟩
  obtain ⟨av, rfl, hD⟩ := tyD.rp.1 hRp
  obtain ⟨A3, c3, rfl, -, -, -⟩ := hD.form
  unfold argA
  unfold Ty.cells
  have ht0 := HT3.out.keeps hk n1
  have g0 := ht0.free 6
  have q0 := ht0.cell (i := 6) rfl
  have g1 := ht0.free 7
  have q1 := ht0.cell (i := 7) rfl
  have g2 := ht0.free 8
  have q2 := ht0.cell (i := 8) rfl
  have g3 := ht0.free 9
  have q3 := ht0.cell (i := 9) rfl
  obtain ⟨W4, hW⟩ : ∃ W4, ((((v3.setCell ⟨bt, 6, none⟩ (.int .i64 y3.1.kind)).setCell ⟨bt, 7, none⟩ (.string y3.1.name)).setCell ⟨bt, 8, none⟩ (.int .i64 y3.1.var)).setCell ⟨bt, 9, none⟩ (.slice A3 y3.1.args.length c3)) = W4 := ⟨_, rfl⟩
  have hk2 : Keeps (· = bt) v3 W4 := by rw [← hW]; exact ((((Keeps.refl (· = bt) v3).setCell (p := ⟨bt, 6, none⟩) (fun _ => rfl) _).setCell (p := ⟨bt, 7, none⟩) (fun _ => rfl) _).setCell (p := ⟨bt, 8, none⟩) (fun _ => rfl) _).setCell (p := ⟨bt, 9, none⟩) (fun _ => rfl) _
  have ht : Blk W4 bt 82 [.string y0.1, .string y1.1, .int .i64 y2.1.kind, .string y2.1.name, .int .i64 y2.1.var, .slice A2 y2.1.args.length c2, .int .i64 y3.1.kind, .string y3.1.name, .int .i64 y3.1.var, .slice A3 y3.1.args.length c3] := by rw [← hW]; exact ((((ht0).set_ 6 _).set_ 7 _).set_ 8 _).set_ 9 _
  have hz2 : W4.heap.size = v3.heap.size := by rw [← hW]; simp [World.setCell]
  have hzk := hk.size
  have hKW := HK3.out.size
  have hbtl : bt < W3.heap.size := HT3.out.lt
  have HD2_4 := Lib.hid (((HD2_3.out.keeps hk (fun i hi h => by have := hi.1.1; have := HBd.out.1; omega)).keeps hk2 (fun i hi h => hi.2 h)).mono (G := fun b => (W0.heap.size ≤ b ∧ b < W4.heap.size) ∧ ¬ b = bt) (fun b hb => ⟨⟨hb.1.1, by have := hb.1.2; omega⟩, hb.2⟩))
  have HD3_4 := Lib.hid ((hD.keeps hk2 (fun i hi h => by have := hi.1; omega)).mono (G := fun b => (W0.heap.size ≤ b ∧ b < W4.heap.size) ∧ ¬ b = bt) (fun b hb => ⟨⟨by have := hb.1; omega, by have := hb.2; omega⟩, by have := hb.1; omega⟩))
  have HR4 := Lib.hid (hr.keeps hk2 n3)
  have H24 := Lib.hid ((H23.out.keeps hk HNb.out).keeps hk2 n4)
  have HT4 := Lib.hid ht
  have HK4 : Hid (Keeps (· = br) W0 W4) := (HK3.out.trans hk (fun _ _ h => h)).trans hk2 (fun i hi h => by have := HBd.out.2.2; omega)
  have HW4 := Lib.hid hW
  clear hW hk2 ht hz2 hzk hKW hbtl hr hk ht0 HR3 H23 HT3 HK3 HD2_3 hD hRp
  go_upto_region 5 with (fail)
  rw [HW4.out]
  clear g0 q0 g1 q1 g2 q2 g3 q3
  have t0 := HT4.out.cell (i := 0) rfl
  have x0 := H24.out.cell (i := 0) rfl
  have z0 := H24.out.free 0
  have t1 := HT4.out.cell (i := 1) rfl
  have x1 := H24.out.cell (i := 1) rfl
  have z1 := H24.out.free 1
  have t2 := HT4.out.cell (i := 2) rfl
  have x2 := H24.out.cell (i := 2) rfl
  have z2 := H24.out.free 2
  have t3 := HT4.out.cell (i := 3) rfl
  have x3 := H24.out.cell (i := 3) rfl
  have z3 := H24.out.free 3
  have t4 := HT4.out.cell (i := 4) rfl
  have x4 := H24.out.cell (i := 4) rfl
  have z4 := H24.out.free 4
  have t5 := HT4.out.cell (i := 5) rfl
  have x5 := H24.out.cell (i := 5) rfl
  have z5 := H24.out.free 5
  have t6 := HT4.out.cell (i := 6) rfl
  have x6 := H24.out.cell (i := 6) rfl
  have z6 := H24.out.free 6
  have t7 := HT4.out.cell (i := 7) rfl
  have x7 := H24.out.cell (i := 7) rfl
  have z7 := H24.out.free 7
  have t8 := HT4.out.cell (i := 8) rfl
  have x8 := H24.out.cell (i := 8) rfl
  have z8 := H24.out.free 8
  have t9 := HT4.out.cell (i := 9) rfl
  have x9 := H24.out.cell (i := 9) rfl
  have z9 := H24.out.free 9
  go_wp2_with fail
  have hkf : Keeps (· = b2) W4 ((((((((((W4.setCell ⟨b2, 0, none⟩ (.string y0.1)).setCell ⟨b2, 1, none⟩ (.string y1.1)).setCell ⟨b2, 2, none⟩ (.int .i64 y2.1.kind)).setCell ⟨b2, 3, none⟩ (.string y2.1.name)).setCell ⟨b2, 4, none⟩ (.int .i64 y2.1.var)).setCell ⟨b2, 5, none⟩ (.slice A2 y2.1.args.length c2)).setCell ⟨b2, 6, none⟩ (.int .i64 y3.1.kind)).setCell ⟨b2, 7, none⟩ (.string y3.1.name)).setCell ⟨b2, 8, none⟩ (.int .i64 y3.1.var)).setCell ⟨b2, 9, none⟩ (.slice A3 y3.1.args.length c3)) := ((((((((((Keeps.refl (· = b2) W4).setCell (p := ⟨b2, 0, none⟩) (fun _ => rfl) _).setCell (p := ⟨b2, 1, none⟩) (fun _ => rfl) _).setCell (p := ⟨b2, 2, none⟩) (fun _ => rfl) _).setCell (p := ⟨b2, 3, none⟩) (fun _ => rfl) _).setCell (p := ⟨b2, 4, none⟩) (fun _ => rfl) _).setCell (p := ⟨b2, 5, none⟩) (fun _ => rfl) _).setCell (p := ⟨b2, 6, none⟩) (fun _ => rfl) _).setCell (p := ⟨b2, 7, none⟩) (fun _ => rfl) _).setCell (p := ⟨b2, 8, none⟩) (fun _ => rfl) _).setCell (p := ⟨b2, 9, none⟩) (fun _ => rfl) _
  have hzf : ((((((((((W4.setCell ⟨b2, 0, none⟩ (.string y0.1)).setCell ⟨b2, 1, none⟩ (.string y1.1)).setCell ⟨b2, 2, none⟩ (.int .i64 y2.1.kind)).setCell ⟨b2, 3, none⟩ (.string y2.1.name)).setCell ⟨b2, 4, none⟩ (.int .i64 y2.1.var)).setCell ⟨b2, 5, none⟩ (.slice A2 y2.1.args.length c2)).setCell ⟨b2, 6, none⟩ (.int .i64 y3.1.kind)).setCell ⟨b2, 7, none⟩ (.string y3.1.name)).setCell ⟨b2, 8, none⟩ (.int .i64 y3.1.var)).setCell ⟨b2, 9, none⟩ (.slice A3 y3.1.args.length c3)).heap.size = W4.heap.size := by simp [World.setCell]
  have hbf : Blk ((((((((((W4.setCell ⟨b2, 0, none⟩ (.string y0.1)).setCell ⟨b2, 1, none⟩ (.string y1.1)).setCell ⟨b2, 2, none⟩ (.int .i64 y2.1.kind)).setCell ⟨b2, 3, none⟩ (.string y2.1.name)).setCell ⟨b2, 4, none⟩ (.int .i64 y2.1.var)).setCell ⟨b2, 5, none⟩ (.slice A2 y2.1.args.length c2)).setCell ⟨b2, 6, none⟩ (.int .i64 y3.1.kind)).setCell ⟨b2, 7, none⟩ (.string y3.1.name)).setCell ⟨b2, 8, none⟩ (.int .i64 y3.1.var)).setCell ⟨b2, 9, none⟩ (.slice A3 y3.1.args.length c3)) b2 82 [.string y0.1, .string y1.1, .int .i64 y2.1.kind, .string y2.1.name, .int .i64 y2.1.var, .slice A2 y2.1.args.length c2, .int .i64 y3.1.kind, .string y3.1.name, .int .i64 y3.1.var, .slice A3 y3.1.args.length c3] := ((((((((((H24.out).set_ 0 _).set_ 1 _).set_ 2 _).set_ 3 _).set_ 4 _).set_ 5 _).set_ 6 _).set_ 7 _).set_ 8 _).set_ 9 _
  have hb2l := HB0.out.2
  have hb0l := HB0.out.1
  have hk0 := HKw.out.size
  have e1 := HB2.out
  generalize ((((((((((W4.setCell ⟨b2, 0, none⟩ (.string y0.1)).setCell ⟨b2, 1, none⟩ (.string y1.1)).setCell ⟨b2, 2, none⟩ (.int .i64 y2.1.kind)).setCell ⟨b2, 3, none⟩ (.string y2.1.name)).setCell ⟨b2, 4, none⟩ (.int .i64 y2.1.var)).setCell ⟨b2, 5, none⟩ (.slice A2 y2.1.args.length c2)).setCell ⟨b2, 6, none⟩ (.int .i64 y3.1.kind)).setCell ⟨b2, 7, none⟩ (.string y3.1.name)).setCell ⟨b2, 8, none⟩ (.int .i64 y3.1.var)).setCell ⟨b2, 9, none⟩ (.slice A3 y3.1.args.length c3)) = wf at hkf hzf hbf
  refine ret_row rfl rfl hbf Tryd.underlying82 (by kernel_rfl) rfl ?_
  exact ⟨[.string y0.1, .string y1.1, .int .i64 y2.1.kind, .string y2.1.name, .int .i64 y2.1.var, .slice A2 y2.1.args.length c2, .int .i64 y3.1.kind, .string y3.1.name, .int .i64 y3.1.var, .slice A3 y3.1.args.length c3], rfl, OpSig.rp.2 ⟨_, _, rfl, HWf0.out, HWf1.out, (HD2_4.out.keeps hkf (fun i hi h => by have := hi.1.1; omega)).mono (fun b hb => ⟨by have := hb.1.1; omega, by have := hb.1.2; omega⟩), (HD3_4.out.keeps hkf (fun i hi h => by have := hi.1.1; omega)).mono (fun b hb => ⟨by have := hb.1.1; omega, by have := hb.1.2; omega⟩)⟩, HR4.out.keeps hkf (fun h => by have := HNb.out; omega), ((HKw.out.mono (fun _ _ h => h.elim)).trans HK4.out (fun _ _ h => h)).trans hkf (fun i hi h => by omega)⟩
theorem faceR_len : Short faceR := fun r => by
  have h0 := textR_len r
  obtain ⟨y0, e0⟩ : ∃ y, textR r = y := ⟨_, rfl⟩
  rw [e0] at h0
  have h1 := (allR_len textR_len) y0.2
  obtain ⟨y1, e1⟩ : ∃ y, allR textR y0.2 = y := ⟨_, rfl⟩
  rw [e1] at h1
  have h2 := (allR_len fixR_len) y1.2
  obtain ⟨y2, e2⟩ : ∃ y, allR fixR y1.2 = y := ⟨_, rfl⟩
  rw [e2] at h2
  have h3 := (allR_len dataR_len) y2.2
  obtain ⟨y3, e3⟩ : ∃ y, allR dataR y2.2 = y := ⟨_, rfl⟩
  rw [e3] at h3
  have h4 := (allR_len classR_len) y3.2
  obtain ⟨y4, e4⟩ : ∃ y, allR classR y3.2 = y := ⟨_, rfl⟩
  rw [e4] at h4
  have h5 := (allR_len instR_len) y4.2
  obtain ⟨y5, e5⟩ : ∃ y, allR instR y4.2 = y := ⟨_, rfl⟩
  rw [e5] at h5
  have h6 := (allR_len opR_len) y5.2
  obtain ⟨y6, e6⟩ : ∃ y, allR opR y5.2 = y := ⟨_, rfl⟩
  rw [e6] at h6
  have h7 := (allR_len valR_len) y6.2
  obtain ⟨y7, e7⟩ : ∃ y, allR valR y6.2 = y := ⟨_, rfl⟩
  rw [e7] at h7
  have hy : (faceR r).2 = y7.2 := by unfold faceR; dsimp only; rw [e0, e1, e2, e3, e4, e5, e6, e7]
  rw [hy]
  omega
end If
end Go.Proofs.YtcbkihplchdhhaaDoor
