/- iface.Decode: what it accepts is what is written for it. -/
import Derived.Test.YtcbkihplchdhhaaDoorIfRS
import Derived.Test.YtcbkihplchdhhaaDoorIfCk
namespace Go.Proofs.YtcbkihplchdhhaaDoor
open Go.RowKit Go.Shelf

/-- A function with a struct that lies in a block of its own, and one more value, as results. -/
theorem ret_row1 {P : Program} {fn : Func} {R : Ending → World → Prop} {a : Act} {w : World} {p r : Tmp} {ty : TypeId} {g : Nat} {t : TypeId} {cs : List Value} {fs : Array Field} {z : Value}
    (hr : fn.results = #[.cell p ty, .tmp r]) (hp : a.tmps.getD p undef = .pointer (some ⟨g, 0, none⟩)) (hz : a.tmps.getD r undef = z)
    (hb : Blk w g t cs) (hu : P.underlying ty = some (.struct fs)) (hi : (P.info? ty).map (·.size) = some cs.length) (hd : a.defers = []) (hR : R (.returned (.tuple #[.agg cs.toArray, z])) w) : bodyPost P fn R .ret a w := by
  refine bodyPost_ret (v := .tuple #[.agg cs.toArray, z]) ?_ hd hR
  have hp' : a.tmps[p]?.getD undef = .pointer (some ⟨g, 0, none⟩) := by simpa using hp
  have hz' : a.tmps[r]?.getD undef = z := by simpa using hz
  simp [results, hr, hp', hz', asAddr, run_loadVar_row w g t ty cs.toArray (0, 0) _ hb hu rfl (by simpa using hi)]
namespace If
def zFace : List Value := [.string ⟨#[]⟩, .slice none 0 0, .slice none 0 0, .slice none 0 0, .slice none 0 0, .slice none 0 0, .slice none 0 0, .slice none 0 0]
/-- What Decode leaves. -/
def DePost (s : ByteArray) (W : World) (e : Ending) (w' : World) : Prop := ∃ (cs : List Value) (z : Int), e = .returned (.tuple #[.agg cs.toArray, .int .i64 z]) ∧ Keeps (fun _ => False) W w' ∧ ((¬ z = 0 ∧ cs = zFace) ∨ (z = 0 ∧ ∃ x : Iface, Rp w' (fun b => b < w'.heap.size) x.d cs ∧ faceW x = s.data.toList ∧ checkP x = 0))
set_option maxRecDepth 100000 in
set_option maxHeartbeats 16000000 in
theorem Decode_any (W : World) (s : ByteArray) (hz : Szs W) : Calls Tryd.prog 7 #[.string s] W (DePost s W) := by
  obtain ⟨b2, hb2⟩ : ∃ b, W.heap.size = b := ⟨_, rfl⟩
  obtain ⟨Wa, hWa⟩ : ∃ w, W.alloc (.cells #[.string ⟨#[]⟩, .slice none 0 0, .slice none 0 0, .slice none 0 0, .slice none 0 0, .slice none 0 0, .slice none 0 0, .slice none 0 0] 33) = w := ⟨_, rfl⟩
  have hka : Keeps (fun _ => False) W Wa := by rw [← hWa]; exact (Keeps.refl _ _).alloc _
  have h2a : Blk Wa b2 33 [.string ⟨#[]⟩, .slice none 0 0, .slice none 0 0, .slice none 0 0, .slice none 0 0, .slice none 0 0, .slice none 0 0, .slice none 0 0] := by rw [← hWa, ← hb2]; exact Blk.new W _ [_, _, _, _, _, _, _, _]
  have hza : Wa.heap.size = b2 + 1 := by rw [← hWa, ← hb2]; simp
  have HKa := Lib.hid hka
  have HB2 := Lib.hid hb2
  have HWa := Lib.hid hWa
  by_cases hbig : 1048576 < s.size
  · have k0 : (1048576 : Int) < (s.size : Int) := by omega
    have H2a := Lib.hid h2a
    clear hka h2a hza hb2 hWa hz
    go_enter Tryd.func7, Tryd.ntmps7
    go_upto_region 1 with (fail)
    rw [HWa.out, HB2.out]
    have h2 := H2a.out
    have x0 := h2.cell (i := 0) rfl
    have z0 := h2.free 0
    have x1 := h2.cell (i := 1) rfl
    have z1 := h2.free 1
    have x2 := h2.cell (i := 2) rfl
    have z2 := h2.free 2
    have x3 := h2.cell (i := 3) rfl
    have z3 := h2.free 3
    have x4 := h2.cell (i := 4) rfl
    have z4 := h2.free 4
    have x5 := h2.cell (i := 5) rfl
    have z5 := h2.free 5
    have x6 := h2.cell (i := 6) rfl
    have z6 := h2.free 6
    have x7 := h2.cell (i := 7) rfl
    have z7 := h2.free 7
    go_wp2_with fail
    have hkf : Keeps (· = b2) Wa ((((((((Wa.setCell ⟨b2, 0, none⟩ (.string ⟨#[]⟩)).setCell ⟨b2, 1, none⟩ (.slice none 0 0)).setCell ⟨b2, 2, none⟩ (.slice none 0 0)).setCell ⟨b2, 3, none⟩ (.slice none 0 0)).setCell ⟨b2, 4, none⟩ (.slice none 0 0)).setCell ⟨b2, 5, none⟩ (.slice none 0 0)).setCell ⟨b2, 6, none⟩ (.slice none 0 0)).setCell ⟨b2, 7, none⟩ (.slice none 0 0)) := ((((((((Keeps.refl (· = b2) Wa).setCell (p := ⟨b2, 0, none⟩) (fun _ => rfl) _).setCell (p := ⟨b2, 1, none⟩) (fun _ => rfl) _).setCell (p := ⟨b2, 2, none⟩) (fun _ => rfl) _).setCell (p := ⟨b2, 3, none⟩) (fun _ => rfl) _).setCell (p := ⟨b2, 4, none⟩) (fun _ => rfl) _).setCell (p := ⟨b2, 5, none⟩) (fun _ => rfl) _).setCell (p := ⟨b2, 6, none⟩) (fun _ => rfl) _).setCell (p := ⟨b2, 7, none⟩) (fun _ => rfl) _
    have hbf : Blk ((((((((Wa.setCell ⟨b2, 0, none⟩ (.string ⟨#[]⟩)).setCell ⟨b2, 1, none⟩ (.slice none 0 0)).setCell ⟨b2, 2, none⟩ (.slice none 0 0)).setCell ⟨b2, 3, none⟩ (.slice none 0 0)).setCell ⟨b2, 4, none⟩ (.slice none 0 0)).setCell ⟨b2, 5, none⟩ (.slice none 0 0)).setCell ⟨b2, 6, none⟩ (.slice none 0 0)).setCell ⟨b2, 7, none⟩ (.slice none 0 0)) b2 33 [.string ⟨#[]⟩, .slice none 0 0, .slice none 0 0, .slice none 0 0, .slice none 0 0, .slice none 0 0, .slice none 0 0, .slice none 0 0] := ((((((((h2).set_ 0 _).set_ 1 _).set_ 2 _).set_ 3 _).set_ 4 _).set_ 5 _).set_ 6 _).set_ 7 _
    generalize ((((((((Wa.setCell ⟨b2, 0, none⟩ (.string ⟨#[]⟩)).setCell ⟨b2, 1, none⟩ (.slice none 0 0)).setCell ⟨b2, 2, none⟩ (.slice none 0 0)).setCell ⟨b2, 3, none⟩ (.slice none 0 0)).setCell ⟨b2, 4, none⟩ (.slice none 0 0)).setCell ⟨b2, 5, none⟩ (.slice none 0 0)).setCell ⟨b2, 6, none⟩ (.slice none 0 0)).setCell ⟨b2, 7, none⟩ (.slice none 0 0)) = wf at hkf hbf
    exact ret_row1 rfl rfl rfl hbf Tryd.underlying33 (by kernel_rfl) rfl ⟨_, _, rfl, HKa.out.trans hkf (fun i hi h => by have := HB2.out; omega), .inl ⟨by decide, rfl⟩⟩
  have k0 : decide ((1048576 : Int) < (s.size : Int)) = false := decide_eq_false (by omega)
  have hss : bstr s.data.toList = s := by unfold bstr; simp
  obtain ⟨r, hr⟩ : ∃ r : R, (⟨s.data.toList, false⟩ : R) = r := ⟨_, rfl⟩
  have hl : r.s.length ≤ 1048576 := by rw [← hr]; show s.data.toList.length ≤ 1048576; rw [Array.length_toList]; have : s.data.size = s.size := rfl; omega
  obtain ⟨br, hbr⟩ : ∃ b, Wa.heap.size = b := ⟨_, rfl⟩
  obtain ⟨W0, hW0⟩ : ∃ w, Wa.alloc (.cells #[.string s, .bool false, .int .i64 0] 65) = w := ⟨_, rfl⟩
  have hk0 : Keeps (fun _ => False) Wa W0 := by rw [← hW0]; exact (Keeps.refl _ _).alloc _
  have hr0 : RdAt W0 br r 0 := by
    rw [← hr, ← hW0, ← hbr]
    unfold RdAt
    rw [hss]
    exact Blk.new Wa _ [_, _, _]
  have hz0' : W0.heap.size = b2 + 2 := by rw [← hW0]; simp [hza]
  have hnb : ¬ b2 = br := by omega
  have hzl : 0 < br := by have := block_lt_of_cell hz.c0; have h : (0 : Nat) < W.heap.size := this; omega
  have HNb := Lib.hid hnb
  have HB0 : Hid (br < W0.heap.size ∧ b2 < W0.heap.size) := ⟨by omega, by omega⟩
  have HR0 := Lib.hid hr0
  have H20 := Lib.hid (h2a.keeps hk0 (fun h => h))
  have HK00 : Hid (Keeps (fun _ => False) W W0) := hka.trans hk0 (fun _ _ h => h)
  have HZ0 := Lib.hid (hz.keeps HK00.out (fun h => h))
  have HZl := Lib.hid hzl
  have HLo : Hid (W.heap.size ≤ br ∧ W.heap.size ≤ b2) := ⟨by omega, by omega⟩
  have HW0 := Lib.hid hW0
  have HBr := Lib.hid hbr
  have HRr := Lib.hid hr
  clear hka h2a hza hb2 hWa hbig hss hr hbr hW0 hk0 hr0 hz0' hnb hz hzl
  obtain ⟨y0, e0⟩ : ∃ y, textR r = y := ⟨_, rfl⟩
  obtain ⟨y1, e1⟩ : ∃ y, allR textR y0.2 = y := ⟨_, rfl⟩
  obtain ⟨y2, e2⟩ : ∃ y, allR fixR y1.2 = y := ⟨_, rfl⟩
  obtain ⟨y3, e3⟩ : ∃ y, allR dataR y2.2 = y := ⟨_, rfl⟩
  obtain ⟨y4, e4⟩ : ∃ y, allR classR y3.2 = y := ⟨_, rfl⟩
  obtain ⟨y5, e5⟩ : ∃ y, allR instR y4.2 = y := ⟨_, rfl⟩
  obtain ⟨y6, e6⟩ : ∃ y, allR opR y5.2 = y := ⟨_, rfl⟩
  obtain ⟨y7, e7⟩ : ∃ y, allR valR y6.2 = y := ⟨_, rfl⟩
  have hy : faceR r = (⟨y0.1, y1.1, y2.1, y3.1, y4.1, y5.1, y6.1, y7.1⟩, y7.2) := by unfold faceR; dsimp only; rw [e0, e1, e2, e3, e4, e5, e6, e7]
  have HFy := Lib.hid hy
  clear hy
  have l0 : y0.2.s.length ≤ 1048576 := by have h := textR_len r; rw [e0] at h; omega
  have w0 : y0.1.size ≤ maxLen := by have h := textR_size r; rw [e0] at h; unfold maxLen; omega
  have l1 : y1.2.s.length ≤ 1048576 := by have h := (allR_len textR_len) y0.2; rw [e1] at h; omega
  have l2 : y2.2.s.length ≤ 1048576 := by have h := (allR_len fixR_len) y1.2; rw [e2] at h; omega
  have l3 : y3.2.s.length ≤ 1048576 := by have h := (allR_len dataR_len) y2.2; rw [e3] at h; omega
  have l4 : y4.2.s.length ≤ 1048576 := by have h := (allR_len classR_len) y3.2; rw [e4] at h; omega
  have l5 : y5.2.s.length ≤ 1048576 := by have h := (allR_len instR_len) y4.2; rw [e5] at h; omega
  have l6 : y6.2.s.length ≤ 1048576 := by have h := (allR_len opR_len) y5.2; rw [e6] at h; omega
  have l7 : y7.2.s.length ≤ 1048576 := by have h := (allR_len valR_len) y6.2; rw [e7] at h; omega
  have HLen := Lib.hid (show r.s.length ≤ 1048576 ∧ y0.2.s.length ≤ 1048576 ∧ y1.2.s.length ≤ 1048576 ∧ y2.2.s.length ≤ 1048576 ∧ y3.2.s.length ≤ 1048576 ∧ y4.2.s.length ≤ 1048576 ∧ y5.2.s.length ≤ 1048576 ∧ y6.2.s.length ≤ 1048576 ∧ y7.2.s.length ≤ 1048576 ∧ True from ⟨hl, l0, l1, l2, l3, l4, l5, l6, l7, trivial⟩)
  have HWf0 := Lib.hid w0
  have HY0 := Lib.hid e0
  have HY1 := Lib.hid e1
  have HY2 := Lib.hid e2
  have HY3 := Lib.hid e3
  have HY4 := Lib.hid e4
  have HY5 := Lib.hid e5
  have HY6 := Lib.hid e6
  have HY7 := Lib.hid e7
  have eg1 : Enters Tryd.prog 13 := enters_of Tryd.func13 (by kernel_rfl) rfl
  have HEg1 := Lib.hid eg1
  clear eg1
  have eg2 : Enters Tryd.prog 16 := enters_of Tryd.func16 (by kernel_rfl) rfl
  have HEg2 := Lib.hid eg2
  clear eg2
  have eg3 : Enters Tryd.prog 18 := enters_of Tryd.func18 (by kernel_rfl) rfl
  have HEg3 := Lib.hid eg3
  clear eg3
  have eg4 : Enters Tryd.prog 20 := enters_of Tryd.func20 (by kernel_rfl) rfl
  have HEg4 := Lib.hid eg4
  clear eg4
  have eg5 : Enters Tryd.prog 22 := enters_of Tryd.func22 (by kernel_rfl) rfl
  have HEg5 := Lib.hid eg5
  clear eg5
  have eg6 : Enters Tryd.prog 24 := enters_of Tryd.func24 (by kernel_rfl) rfl
  have HEg6 := Lib.hid eg6
  clear eg6
  have eg7 : Enters Tryd.prog 26 := enters_of Tryd.func26 (by kernel_rfl) rfl
  have HEg7 := Lib.hid eg7
  clear eg7
  clear e0 e1 e2 e3 e4 e5 e6 e7 l0 l1 l2 l3 l4 l5 l6 l7 w0
  go_enter Tryd.func7, Tryd.ntmps7
  go_upto_region 1 with (fail)
  rw [HWa.out, HB2.out]
  go_upto_region 4 with (fail)
  rw [HW0.out, HBr.out]
  clear k0 hl
  go_wp2_with fail
  have hN := rtext_any W0 br r 0 HR0.out HLen.out.1
  rw [HY0.out] at hN
  refine hN.mono ?_
  clear hN
  rintro e v0 ⟨rfl, hr, hk⟩
  obtain ⟨bt, hbt⟩ : ∃ bt, v0.heap.size = bt := ⟨_, rfl⟩
  obtain ⟨W1, hW1⟩ : ∃ W1, v0.alloc (.cells #[.string y0.1, .slice none 0 0, .slice none 0 0, .slice none 0 0, .slice none 0 0, .slice none 0 0, .slice none 0 0, .slice none 0 0] 33) = W1 := ⟨_, rfl⟩
  have hk1 : Keeps (fun _ => False) v0 W1 := by rw [← hW1]; exact (Keeps.refl _ _).alloc _
  have ht : Blk W1 bt 33 [.string y0.1, .slice none 0 0, .slice none 0 0, .slice none 0 0, .slice none 0 0, .slice none 0 0, .slice none 0 0, .slice none 0 0] := by rw [← hW1, ← hbt]; exact Blk.new v0 _ [_, _, _, _, _, _, _, _]
  have hKK : Keeps (· = br) W0 W1 := hk.trans hk1 (fun _ _ h => h.elim)
  have hzz := hk.size
  have hBd : br < W0.heap.size ∧ b2 < W0.heap.size ∧ W0.heap.size ≤ bt := ⟨HB0.out.1, HB0.out.2, by omega⟩
  have n1 : ¬ bt = br := by omega
  have n2 : ¬ bt = b2 := by omega
  have n3 : ¬ br = bt := by omega
  have n4 : ¬ b2 = bt := by omega
  have HR1 := Lib.hid (hr.keeps hk1 (fun h => h))
  have H21 := Lib.hid ((H20.out.keeps hk HNb.out).keeps hk1 (fun h => h))
  have HT1 := Lib.hid ht
  have HK1 := Lib.hid hKK
  have HBd := Lib.hid hBd
  have HW1 := Lib.hid hW1
  have HBt := Lib.hid hbt
  clear hr hk hk1 ht hKK hBd hW1 hbt hzz HR0 H20
  go_upto_region 5 with (fail)
  rw [HW1.out, HBt.out]
  go_wp2_with fail
  have hN := allStr_any br 0 13 #[.pointer (some ⟨br, 0, none⟩)] HEg1.out textR textR_len (rtext_fn br) W1 y0.2 HR1.out HLen.out.2.1
  rw [HY1.out] at hN
  refine hN.mono ?_
  clear hN
  rintro e v1 ⟨lv, rfl, hD, hr, hk⟩
  obtain ⟨A1, c1, rfl, -, -, -⟩ := hD.form
  have ht0 := HT1.out.keeps hk n1
  have g0 := ht0.free 1
  have q0 := ht0.cell (i := 1) rfl
  obtain ⟨W2, hW⟩ : ∃ W2, (v1.setCell ⟨bt, 1, none⟩ (.slice A1 y1.1.length c1)) = W2 := ⟨_, rfl⟩
  have hk2 : Keeps (· = bt) v1 W2 := by rw [← hW]; exact (Keeps.refl (· = bt) v1).setCell (p := ⟨bt, 1, none⟩) (fun _ => rfl) _
  have ht : Blk W2 bt 33 [.string y0.1, .slice A1 y1.1.length c1, .slice none 0 0, .slice none 0 0, .slice none 0 0, .slice none 0 0, .slice none 0 0, .slice none 0 0] := by rw [← hW]; exact (ht0).set_ 1 _
  have hz2 : W2.heap.size = v1.heap.size := by rw [← hW]; simp [World.setCell]
  have hzk := hk.size
  have hKW := HK1.out.size
  have hbtl : bt < W1.heap.size := HT1.out.lt
  have HD1_2 := Lib.hid ((hD.keeps hk2 (fun i hi h => by have := hi.1; omega)).mono (G := fun b => (W0.heap.size ≤ b ∧ b < W2.heap.size) ∧ ¬ b = bt) (fun b hb => ⟨⟨by have := hb.1; omega, by have := hb.2; omega⟩, by have := hb.1; omega⟩))
  have HR2 := Lib.hid (hr.keeps hk2 n3)
  have H22 := Lib.hid ((H21.out.keeps hk HNb.out).keeps hk2 n4)
  have HT2 := Lib.hid ht
  have HK2 : Hid (Keeps (· = br) W0 W2) := (HK1.out.trans hk (fun _ _ h => h)).trans hk2 (fun i hi h => by have := HBd.out.2.2; omega)
  have HW2 := Lib.hid hW
  clear hW hk2 ht hz2 hzk hKW hbtl hr hk ht0 HR1 H21 HT1 HK1 hD
  go_upto_region 6 with (fail)
  rw [HW2.out]
  clear g0 q0
  go_wp2_with fail
  have hN := allFixSig_any br 0 16 #[.pointer (some ⟨br, 0, none⟩)] HEg2.out fixR fixR_len (rfix_fn br) W2 y1.2 HR2.out HLen.out.2.2.1
  rw [HY2.out] at hN
  refine hN.mono ?_
  clear hN
  rintro e v2 ⟨lv, rfl, hD, hr, hk⟩
  obtain ⟨A2, c2, rfl, -, -, -⟩ := hD.form
  have ht0 := HT2.out.keeps hk n1
  have g0 := ht0.free 2
  have q0 := ht0.cell (i := 2) rfl
  obtain ⟨W3, hW⟩ : ∃ W3, (v2.setCell ⟨bt, 2, none⟩ (.slice A2 y2.1.length c2)) = W3 := ⟨_, rfl⟩
  have hk2 : Keeps (· = bt) v2 W3 := by rw [← hW]; exact (Keeps.refl (· = bt) v2).setCell (p := ⟨bt, 2, none⟩) (fun _ => rfl) _
  have ht : Blk W3 bt 33 [.string y0.1, .slice A1 y1.1.length c1, .slice A2 y2.1.length c2, .slice none 0 0, .slice none 0 0, .slice none 0 0, .slice none 0 0, .slice none 0 0] := by rw [← hW]; exact (ht0).set_ 2 _
  have hz2 : W3.heap.size = v2.heap.size := by rw [← hW]; simp [World.setCell]
  have hzk := hk.size
  have hKW := HK2.out.size
  have hbtl : bt < W2.heap.size := HT2.out.lt
  have HD1_3 := Lib.hid (((HD1_2.out.keeps hk (fun i hi h => by have := hi.1.1; have := HBd.out.1; omega)).keeps hk2 (fun i hi h => hi.2 h)).mono (G := fun b => (W0.heap.size ≤ b ∧ b < W3.heap.size) ∧ ¬ b = bt) (fun b hb => ⟨⟨hb.1.1, by have := hb.1.2; omega⟩, hb.2⟩))
  have HD2_3 := Lib.hid ((hD.keeps hk2 (fun i hi h => by have := hi.1; omega)).mono (G := fun b => (W0.heap.size ≤ b ∧ b < W3.heap.size) ∧ ¬ b = bt) (fun b hb => ⟨⟨by have := hb.1; omega, by have := hb.2; omega⟩, by have := hb.1; omega⟩))
  have HR3 := Lib.hid (hr.keeps hk2 n3)
  have H23 := Lib.hid ((H22.out.keeps hk HNb.out).keeps hk2 n4)
  have HT3 := Lib.hid ht
  have HK3 : Hid (Keeps (· = br) W0 W3) := (HK2.out.trans hk (fun _ _ h => h)).trans hk2 (fun i hi h => by have := HBd.out.2.2; omega)
  have HW3 := Lib.hid hW
  clear hW hk2 ht hz2 hzk hKW hbtl hr hk ht0 HR2 H22 HT2 HK2 HD1_2 hD
  go_upto_region 7 with (fail)
  rw [HW3.out]
  clear g0 q0
  go_wp2_with fail
  have hN := allDataSig_any br 0 18 #[.pointer (some ⟨br, 0, none⟩)] HEg3.out dataR dataR_len (rdata_fn br) W3 y2.2 HR3.out HLen.out.2.2.2.1
  rw [HY3.out] at hN
  refine hN.mono ?_
  clear hN
  rintro e v3 ⟨lv, rfl, hD, hr, hk⟩
  obtain ⟨A3, c3, rfl, -, -, -⟩ := hD.form
  have ht0 := HT3.out.keeps hk n1
  have g0 := ht0.free 3
  have q0 := ht0.cell (i := 3) rfl
  obtain ⟨W4, hW⟩ : ∃ W4, (v3.setCell ⟨bt, 3, none⟩ (.slice A3 y3.1.length c3)) = W4 := ⟨_, rfl⟩
  have hk2 : Keeps (· = bt) v3 W4 := by rw [← hW]; exact (Keeps.refl (· = bt) v3).setCell (p := ⟨bt, 3, none⟩) (fun _ => rfl) _
  have ht : Blk W4 bt 33 [.string y0.1, .slice A1 y1.1.length c1, .slice A2 y2.1.length c2, .slice A3 y3.1.length c3, .slice none 0 0, .slice none 0 0, .slice none 0 0, .slice none 0 0] := by rw [← hW]; exact (ht0).set_ 3 _
  have hz2 : W4.heap.size = v3.heap.size := by rw [← hW]; simp [World.setCell]
  have hzk := hk.size
  have hKW := HK3.out.size
  have hbtl : bt < W3.heap.size := HT3.out.lt
  have HD1_4 := Lib.hid (((HD1_3.out.keeps hk (fun i hi h => by have := hi.1.1; have := HBd.out.1; omega)).keeps hk2 (fun i hi h => hi.2 h)).mono (G := fun b => (W0.heap.size ≤ b ∧ b < W4.heap.size) ∧ ¬ b = bt) (fun b hb => ⟨⟨hb.1.1, by have := hb.1.2; omega⟩, hb.2⟩))
  have HD2_4 := Lib.hid (((HD2_3.out.keeps hk (fun i hi h => by have := hi.1.1; have := HBd.out.1; omega)).keeps hk2 (fun i hi h => hi.2 h)).mono (G := fun b => (W0.heap.size ≤ b ∧ b < W4.heap.size) ∧ ¬ b = bt) (fun b hb => ⟨⟨hb.1.1, by have := hb.1.2; omega⟩, hb.2⟩))
  have HD3_4 := Lib.hid ((hD.keeps hk2 (fun i hi h => by have := hi.1; omega)).mono (G := fun b => (W0.heap.size ≤ b ∧ b < W4.heap.size) ∧ ¬ b = bt) (fun b hb => ⟨⟨by have := hb.1; omega, by have := hb.2; omega⟩, by have := hb.1; omega⟩))
  have HR4 := Lib.hid (hr.keeps hk2 n3)
  have H24 := Lib.hid ((H23.out.keeps hk HNb.out).keeps hk2 n4)
  have HT4 := Lib.hid ht
  have HK4 : Hid (Keeps (· = br) W0 W4) := (HK3.out.trans hk (fun _ _ h => h)).trans hk2 (fun i hi h => by have := HBd.out.2.2; omega)
  have HW4 := Lib.hid hW
  clear hW hk2 ht hz2 hzk hKW hbtl hr hk ht0 HR3 H23 HT3 HK3 HD1_3 HD2_3 hD
  go_upto_region 8 with (fail)
  rw [HW4.out]
  clear g0 q0
  go_wp2_with fail
  have hN := allClassSig_any br 0 20 #[.pointer (some ⟨br, 0, none⟩)] HEg4.out classR classR_len (rclass_fn br) W4 y3.2 HR4.out HLen.out.2.2.2.2.1
  rw [HY4.out] at hN
  refine hN.mono ?_
  clear hN
  rintro e v4 ⟨lv, rfl, hD, hr, hk⟩
  obtain ⟨A4, c4, rfl, -, -, -⟩ := hD.form
  have ht0 := HT4.out.keeps hk n1
  have g0 := ht0.free 4
  have q0 := ht0.cell (i := 4) rfl
  obtain ⟨W5, hW⟩ : ∃ W5, (v4.setCell ⟨bt, 4, none⟩ (.slice A4 y4.1.length c4)) = W5 := ⟨_, rfl⟩
  have hk2 : Keeps (· = bt) v4 W5 := by rw [← hW]; exact (Keeps.refl (· = bt) v4).setCell (p := ⟨bt, 4, none⟩) (fun _ => rfl) _
  have ht : Blk W5 bt 33 [.string y0.1, .slice A1 y1.1.length c1, .slice A2 y2.1.length c2, .slice A3 y3.1.length c3, .slice A4 y4.1.length c4, .slice none 0 0, .slice none 0 0, .slice none 0 0] := by rw [← hW]; exact (ht0).set_ 4 _
  have hz2 : W5.heap.size = v4.heap.size := by rw [← hW]; simp [World.setCell]
  have hzk := hk.size
  have hKW := HK4.out.size
  have hbtl : bt < W4.heap.size := HT4.out.lt
  have HD1_5 := Lib.hid (((HD1_4.out.keeps hk (fun i hi h => by have := hi.1.1; have := HBd.out.1; omega)).keeps hk2 (fun i hi h => hi.2 h)).mono (G := fun b => (W0.heap.size ≤ b ∧ b < W5.heap.size) ∧ ¬ b = bt) (fun b hb => ⟨⟨hb.1.1, by have := hb.1.2; omega⟩, hb.2⟩))
  have HD2_5 := Lib.hid (((HD2_4.out.keeps hk (fun i hi h => by have := hi.1.1; have := HBd.out.1; omega)).keeps hk2 (fun i hi h => hi.2 h)).mono (G := fun b => (W0.heap.size ≤ b ∧ b < W5.heap.size) ∧ ¬ b = bt) (fun b hb => ⟨⟨hb.1.1, by have := hb.1.2; omega⟩, hb.2⟩))
  have HD3_5 := Lib.hid (((HD3_4.out.keeps hk (fun i hi h => by have := hi.1.1; have := HBd.out.1; omega)).keeps hk2 (fun i hi h => hi.2 h)).mono (G := fun b => (W0.heap.size ≤ b ∧ b < W5.heap.size) ∧ ¬ b = bt) (fun b hb => ⟨⟨hb.1.1, by have := hb.1.2; omega⟩, hb.2⟩))
  have HD4_5 := Lib.hid ((hD.keeps hk2 (fun i hi h => by have := hi.1; omega)).mono (G := fun b => (W0.heap.size ≤ b ∧ b < W5.heap.size) ∧ ¬ b = bt) (fun b hb => ⟨⟨by have := hb.1; omega, by have := hb.2; omega⟩, by have := hb.1; omega⟩))
  have HR5 := Lib.hid (hr.keeps hk2 n3)
  have H25 := Lib.hid ((H24.out.keeps hk HNb.out).keeps hk2 n4)
  have HT5 := Lib.hid ht
  have HK5 : Hid (Keeps (· = br) W0 W5) := (HK4.out.trans hk (fun _ _ h => h)).trans hk2 (fun i hi h => by have := HBd.out.2.2; omega)
  have HW5 := Lib.hid hW
  clear hW hk2 ht hz2 hzk hKW hbtl hr hk ht0 HR4 H24 HT4 HK4 HD1_4 HD2_4 HD3_4 hD
  go_upto_region 9 with (fail)
  rw [HW5.out]
  clear g0 q0
  go_wp2_with fail
  have hN := allInstSig_any br 0 22 #[.pointer (some ⟨br, 0, none⟩)] HEg5.out instR instR_len (rinst_fn br) W5 y4.2 HR5.out HLen.out.2.2.2.2.2.1
  rw [HY5.out] at hN
  refine hN.mono ?_
  clear hN
  rintro e v5 ⟨lv, rfl, hD, hr, hk⟩
  obtain ⟨A5, c5, rfl, -, -, -⟩ := hD.form
  have ht0 := HT5.out.keeps hk n1
  have g0 := ht0.free 5
  have q0 := ht0.cell (i := 5) rfl
  obtain ⟨W6, hW⟩ : ∃ W6, (v5.setCell ⟨bt, 5, none⟩ (.slice A5 y5.1.length c5)) = W6 := ⟨_, rfl⟩
  have hk2 : Keeps (· = bt) v5 W6 := by rw [← hW]; exact (Keeps.refl (· = bt) v5).setCell (p := ⟨bt, 5, none⟩) (fun _ => rfl) _
  have ht : Blk W6 bt 33 [.string y0.1, .slice A1 y1.1.length c1, .slice A2 y2.1.length c2, .slice A3 y3.1.length c3, .slice A4 y4.1.length c4, .slice A5 y5.1.length c5, .slice none 0 0, .slice none 0 0] := by rw [← hW]; exact (ht0).set_ 5 _
  have hz2 : W6.heap.size = v5.heap.size := by rw [← hW]; simp [World.setCell]
  have hzk := hk.size
  have hKW := HK5.out.size
  have hbtl : bt < W5.heap.size := HT5.out.lt
  have HD1_6 := Lib.hid (((HD1_5.out.keeps hk (fun i hi h => by have := hi.1.1; have := HBd.out.1; omega)).keeps hk2 (fun i hi h => hi.2 h)).mono (G := fun b => (W0.heap.size ≤ b ∧ b < W6.heap.size) ∧ ¬ b = bt) (fun b hb => ⟨⟨hb.1.1, by have := hb.1.2; omega⟩, hb.2⟩))
  have HD2_6 := Lib.hid (((HD2_5.out.keeps hk (fun i hi h => by have := hi.1.1; have := HBd.out.1; omega)).keeps hk2 (fun i hi h => hi.2 h)).mono (G := fun b => (W0.heap.size ≤ b ∧ b < W6.heap.size) ∧ ¬ b = bt) (fun b hb => ⟨⟨hb.1.1, by have := hb.1.2; omega⟩, hb.2⟩))
  have HD3_6 := Lib.hid (((HD3_5.out.keeps hk (fun i hi h => by have := hi.1.1; have := HBd.out.1; omega)).keeps hk2 (fun i hi h => hi.2 h)).mono (G := fun b => (W0.heap.size ≤ b ∧ b < W6.heap.size) ∧ ¬ b = bt) (fun b hb => ⟨⟨hb.1.1, by have := hb.1.2; omega⟩, hb.2⟩))
  have HD4_6 := Lib.hid (((HD4_5.out.keeps hk (fun i hi h => by have := hi.1.1; have := HBd.out.1; omega)).keeps hk2 (fun i hi h => hi.2 h)).mono (G := fun b => (W0.heap.size ≤ b ∧ b < W6.heap.size) ∧ ¬ b = bt) (fun b hb => ⟨⟨hb.1.1, by have := hb.1.2; omega⟩, hb.2⟩))
  have HD5_6 := Lib.hid ((hD.keeps hk2 (fun i hi h => by have := hi.1; omega)).mono (G := fun b => (W0.heap.size ≤ b ∧ b < W6.heap.size) ∧ ¬ b = bt) (fun b hb => ⟨⟨by have := hb.1; omega, by have := hb.2; omega⟩, by have := hb.1; omega⟩))
  have HR6 := Lib.hid (hr.keeps hk2 n3)
  have H26 := Lib.hid ((H25.out.keeps hk HNb.out).keeps hk2 n4)
  have HT6 := Lib.hid ht
  have HK6 : Hid (Keeps (· = br) W0 W6) := (HK5.out.trans hk (fun _ _ h => h)).trans hk2 (fun i hi h => by have := HBd.out.2.2; omega)
  have HW6 := Lib.hid hW
  clear hW hk2 ht hz2 hzk hKW hbtl hr hk ht0 HR5 H25 HT5 HK5 HD1_5 HD2_5 HD3_5 HD4_5 hD
  go_upto_region 10 with (fail)
  rw [HW6.out]
  clear g0 q0
  go_wp2_with fail
  have hN := allOpSig_any br 0 24 #[.pointer (some ⟨br, 0, none⟩)] HEg6.out opR opR_len (rop_fn br) W6 y5.2 HR6.out HLen.out.2.2.2.2.2.2.1
  rw [HY6.out] at hN
  refine hN.mono ?_
  clear hN
  rintro e v6 ⟨lv, rfl, hD, hr, hk⟩
  obtain ⟨A6, c6, rfl, -, -, -⟩ := hD.form
  have ht0 := HT6.out.keeps hk n1
  have g0 := ht0.free 6
  have q0 := ht0.cell (i := 6) rfl
  obtain ⟨W7, hW⟩ : ∃ W7, (v6.setCell ⟨bt, 6, none⟩ (.slice A6 y6.1.length c6)) = W7 := ⟨_, rfl⟩
  have hk2 : Keeps (· = bt) v6 W7 := by rw [← hW]; exact (Keeps.refl (· = bt) v6).setCell (p := ⟨bt, 6, none⟩) (fun _ => rfl) _
  have ht : Blk W7 bt 33 [.string y0.1, .slice A1 y1.1.length c1, .slice A2 y2.1.length c2, .slice A3 y3.1.length c3, .slice A4 y4.1.length c4, .slice A5 y5.1.length c5, .slice A6 y6.1.length c6, .slice none 0 0] := by rw [← hW]; exact (ht0).set_ 6 _
  have hz2 : W7.heap.size = v6.heap.size := by rw [← hW]; simp [World.setCell]
  have hzk := hk.size
  have hKW := HK6.out.size
  have hbtl : bt < W6.heap.size := HT6.out.lt
  have HD1_7 := Lib.hid (((HD1_6.out.keeps hk (fun i hi h => by have := hi.1.1; have := HBd.out.1; omega)).keeps hk2 (fun i hi h => hi.2 h)).mono (G := fun b => (W0.heap.size ≤ b ∧ b < W7.heap.size) ∧ ¬ b = bt) (fun b hb => ⟨⟨hb.1.1, by have := hb.1.2; omega⟩, hb.2⟩))
  have HD2_7 := Lib.hid (((HD2_6.out.keeps hk (fun i hi h => by have := hi.1.1; have := HBd.out.1; omega)).keeps hk2 (fun i hi h => hi.2 h)).mono (G := fun b => (W0.heap.size ≤ b ∧ b < W7.heap.size) ∧ ¬ b = bt) (fun b hb => ⟨⟨hb.1.1, by have := hb.1.2; omega⟩, hb.2⟩))
  have HD3_7 := Lib.hid (((HD3_6.out.keeps hk (fun i hi h => by have := hi.1.1; have := HBd.out.1; omega)).keeps hk2 (fun i hi h => hi.2 h)).mono (G := fun b => (W0.heap.size ≤ b ∧ b < W7.heap.size) ∧ ¬ b = bt) (fun b hb => ⟨⟨hb.1.1, by have := hb.1.2; omega⟩, hb.2⟩))
  have HD4_7 := Lib.hid (((HD4_6.out.keeps hk (fun i hi h => by have := hi.1.1; have := HBd.out.1; omega)).keeps hk2 (fun i hi h => hi.2 h)).mono (G := fun b => (W0.heap.size ≤ b ∧ b < W7.heap.size) ∧ ¬ b = bt) (fun b hb => ⟨⟨hb.1.1, by have := hb.1.2; omega⟩, hb.2⟩))
  have HD5_7 := Lib.hid (((HD5_6.out.keeps hk (fun i hi h => by have := hi.1.1; have := HBd.out.1; omega)).keeps hk2 (fun i hi h => hi.2 h)).mono (G := fun b => (W0.heap.size ≤ b ∧ b < W7.heap.size) ∧ ¬ b = bt) (fun b hb => ⟨⟨hb.1.1, by have := hb.1.2; omega⟩, hb.2⟩))
  have HD6_7 := Lib.hid ((hD.keeps hk2 (fun i hi h => by have := hi.1; omega)).mono (G := fun b => (W0.heap.size ≤ b ∧ b < W7.heap.size) ∧ ¬ b = bt) (fun b hb => ⟨⟨by have := hb.1; omega, by have := hb.2; omega⟩, by have := hb.1; omega⟩))
  have HR7 := Lib.hid (hr.keeps hk2 n3)
  have H27 := Lib.hid ((H26.out.keeps hk HNb.out).keeps hk2 n4)
  have HT7 := Lib.hid ht
  have HK7 : Hid (Keeps (· = br) W0 W7) := (HK6.out.trans hk (fun _ _ h => h)).trans hk2 (fun i hi h => by have := HBd.out.2.2; omega)
  have HW7 := Lib.hid hW
  clear hW hk2 ht hz2 hzk hKW hbtl hr hk ht0 HR6 H26 HT6 HK6 HD1_6 HD2_6 HD3_6 HD4_6 HD5_6 hD
  go_upto_region 11 with (fail)
  rw [HW7.out]
  clear g0 q0
  go_wp2_with fail
  have hN := allValSig_any br 0 26 #[.pointer (some ⟨br, 0, none⟩)] HEg7.out valR valR_len (rval_fn br) W7 y6.2 HR7.out HLen.out.2.2.2.2.2.2.2.1
  rw [HY7.out] at hN
  refine hN.mono ?_
  clear hN
  rintro e v7 ⟨lv, rfl, hD, hr, hk⟩
  obtain ⟨A7, c7, rfl, -, -, -⟩ := hD.form
  have ht0 := HT7.out.keeps hk n1
  have g0 := ht0.free 7
  have q0 := ht0.cell (i := 7) rfl
  obtain ⟨W8, hW⟩ : ∃ W8, (v7.setCell ⟨bt, 7, none⟩ (.slice A7 y7.1.length c7)) = W8 := ⟨_, rfl⟩
  have hk2 : Keeps (· = bt) v7 W8 := by rw [← hW]; exact (Keeps.refl (· = bt) v7).setCell (p := ⟨bt, 7, none⟩) (fun _ => rfl) _
  have ht : Blk W8 bt 33 [.string y0.1, .slice A1 y1.1.length c1, .slice A2 y2.1.length c2, .slice A3 y3.1.length c3, .slice A4 y4.1.length c4, .slice A5 y5.1.length c5, .slice A6 y6.1.length c6, .slice A7 y7.1.length c7] := by rw [← hW]; exact (ht0).set_ 7 _
  have hz2 : W8.heap.size = v7.heap.size := by rw [← hW]; simp [World.setCell]
  have hzk := hk.size
  have hKW := HK7.out.size
  have hbtl : bt < W7.heap.size := HT7.out.lt
  have HD1_8 := Lib.hid (((HD1_7.out.keeps hk (fun i hi h => by have := hi.1.1; have := HBd.out.1; omega)).keeps hk2 (fun i hi h => hi.2 h)).mono (G := fun b => (W0.heap.size ≤ b ∧ b < W8.heap.size) ∧ ¬ b = bt) (fun b hb => ⟨⟨hb.1.1, by have := hb.1.2; omega⟩, hb.2⟩))
  have HD2_8 := Lib.hid (((HD2_7.out.keeps hk (fun i hi h => by have := hi.1.1; have := HBd.out.1; omega)).keeps hk2 (fun i hi h => hi.2 h)).mono (G := fun b => (W0.heap.size ≤ b ∧ b < W8.heap.size) ∧ ¬ b = bt) (fun b hb => ⟨⟨hb.1.1, by have := hb.1.2; omega⟩, hb.2⟩))
  have HD3_8 := Lib.hid (((HD3_7.out.keeps hk (fun i hi h => by have := hi.1.1; have := HBd.out.1; omega)).keeps hk2 (fun i hi h => hi.2 h)).mono (G := fun b => (W0.heap.size ≤ b ∧ b < W8.heap.size) ∧ ¬ b = bt) (fun b hb => ⟨⟨hb.1.1, by have := hb.1.2; omega⟩, hb.2⟩))
  have HD4_8 := Lib.hid (((HD4_7.out.keeps hk (fun i hi h => by have := hi.1.1; have := HBd.out.1; omega)).keeps hk2 (fun i hi h => hi.2 h)).mono (G := fun b => (W0.heap.size ≤ b ∧ b < W8.heap.size) ∧ ¬ b = bt) (fun b hb => ⟨⟨hb.1.1, by have := hb.1.2; omega⟩, hb.2⟩))
  have HD5_8 := Lib.hid (((HD5_7.out.keeps hk (fun i hi h => by have := hi.1.1; have := HBd.out.1; omega)).keeps hk2 (fun i hi h => hi.2 h)).mono (G := fun b => (W0.heap.size ≤ b ∧ b < W8.heap.size) ∧ ¬ b = bt) (fun b hb => ⟨⟨hb.1.1, by have := hb.1.2; omega⟩, hb.2⟩))
  have HD6_8 := Lib.hid (((HD6_7.out.keeps hk (fun i hi h => by have := hi.1.1; have := HBd.out.1; omega)).keeps hk2 (fun i hi h => hi.2 h)).mono (G := fun b => (W0.heap.size ≤ b ∧ b < W8.heap.size) ∧ ¬ b = bt) (fun b hb => ⟨⟨hb.1.1, by have := hb.1.2; omega⟩, hb.2⟩))
  have HD7_8 := Lib.hid ((hD.keeps hk2 (fun i hi h => by have := hi.1; omega)).mono (G := fun b => (W0.heap.size ≤ b ∧ b < W8.heap.size) ∧ ¬ b = bt) (fun b hb => ⟨⟨by have := hb.1; omega, by have := hb.2; omega⟩, by have := hb.1; omega⟩))
  have HR8 := Lib.hid (hr.keeps hk2 n3)
  have H28 := Lib.hid ((H27.out.keeps hk HNb.out).keeps hk2 n4)
  have HT8 := Lib.hid ht
  have HK8 : Hid (Keeps (· = br) W0 W8) := (HK7.out.trans hk (fun _ _ h => h)).trans hk2 (fun i hi h => by have := HBd.out.2.2; omega)
  have HW8 := Lib.hid hW
  clear hW hk2 ht hz2 hzk hKW hbtl hr hk ht0 HR7 H27 HT7 HK7 HD1_7 HD2_7 HD3_7 HD4_7 HD5_7 HD6_7 hD
  go_upto_region 12 with (fail)
  rw [HW8.out]
  clear g0 q0
  have HKW : Hid (Keeps (fun _ => False) W W8) := HK00.out.trans HK8.out (fun i hi h => by have := HLo.out.1; omega)
  have hr8 := HR8.out
  unfold RdAt at hr8
  obtain ⟨rs, hrs⟩ : ∃ x, y7.2.s = x := ⟨_, rfl⟩
  obtain ⟨rb, hrb⟩ : ∃ x, y7.2.bad = x := ⟨_, rfl⟩
  rw [hrs, hrb] at hr8
  obtain ⟨q, hq⟩ : ∃ q, bstr rs = q := ⟨_, rfl⟩
  rw [hq] at hr8
  have rc0 := hr8.cell (i := 0) rfl
  have rc1 := hr8.cell (i := 1) rfl
  have HQ := Lib.hid hq
  have HRs := Lib.hid hrs
  have HRb := Lib.hid hrb
  clear hr8 hq hrs hrb
  cases rb
  · by_cases hne : rs = []
    · have e0 : q.toList.isEmpty = true := by rw [← HQ.out, hne, ByteArray.toList_eq]; rfl
      have HNe := Lib.hid hne
      clear hne
      have HWr : Hid (faceW (⟨y0.1, y1.1, y2.1, y3.1, y4.1, y5.1, y6.1, y7.1⟩ : Iface) = s.data.toList) := by
        have h := read_written s (by rw [HRr.out, HFy.out]; exact HRb.out) (by rw [HRr.out, HFy.out]; exact HRs.out.trans HNe.out)
        rw [HRr.out, HFy.out] at h
        exact h
      obtain ⟨zz, hzz⟩ : ∃ zz, checkP (⟨y0.1, y1.1, y2.1, y3.1, y4.1, y5.1, y6.1, y7.1⟩ : Iface) = zz := ⟨_, rfl⟩
      have hRp : Rp W8 (fun b => (W0.heap.size ≤ b ∧ b < W8.heap.size) ∧ ¬ b = bt) (Iface.d (⟨y0.1, y1.1, y2.1, y3.1, y4.1, y5.1, y6.1, y7.1⟩ : Iface)) [.string y0.1, .slice A1 y1.1.length c1, .slice A2 y2.1.length c2, .slice A3 y3.1.length c3, .slice A4 y4.1.length c4, .slice A5 y5.1.length c5, .slice A6 y6.1.length c6, .slice A7 y7.1.length c7] := Iface.rp.2 ⟨_, _, _, _, _, _, _, rfl, HWf0.out, HD1_8.out, HD2_8.out, HD3_8.out, HD4_8.out, HD5_8.out, HD6_8.out, HD7_8.out⟩
      have hCk := Check_any W8 (⟨y0.1, y1.1, y2.1, y3.1, y4.1, y5.1, y6.1, y7.1⟩ : Iface) _ [.string y0.1, .slice A1 y1.1.length c1, .slice A2 y2.1.length c2, .slice A3 y3.1.length c3, .slice A4 y4.1.length c4, .slice A5 y5.1.length c5, .slice A6 y6.1.length c6, .slice A7 y7.1.length c7] hRp (fun b hb => hb.1.2) (HZ0.out.keeps HK8.out (fun h => by have := HZl.out; omega)) (by rw [HWr.out]; have h := HLen.out.1; rw [← HRr.out] at h; exact Nat.le_trans h (by decide))
      rw [hzz] at hCk
      have HCk := Lib.hid hCk
      have HRp := Lib.hid hRp
      have HZz := Lib.hid hzz
      clear hCk hRp hzz
      have t0 := HT8.out.cell (i := 0) rfl
      have t1 := HT8.out.cell (i := 1) rfl
      have t2 := HT8.out.cell (i := 2) rfl
      have t3 := HT8.out.cell (i := 3) rfl
      have t4 := HT8.out.cell (i := 4) rfl
      have t5 := HT8.out.cell (i := 5) rfl
      have t6 := HT8.out.cell (i := 6) rfl
      have t7 := HT8.out.cell (i := 7) rfl
      go_wp2_with fail
      refine HCk.out.mono ?_
      rintro e w9 ⟨rfl, hk9⟩
      have HK9 := Lib.hid hk9
      clear hk9 t0 t1 t2 t3 t4 t5 t6 t7
      by_cases h0 : zz = 0
      · subst h0
        have t0 := (HT8.out.keeps HK9.out (fun h => h)).cell (i := 0) rfl
        have t1 := (HT8.out.keeps HK9.out (fun h => h)).cell (i := 1) rfl
        have t2 := (HT8.out.keeps HK9.out (fun h => h)).cell (i := 2) rfl
        have t3 := (HT8.out.keeps HK9.out (fun h => h)).cell (i := 3) rfl
        have t4 := (HT8.out.keeps HK9.out (fun h => h)).cell (i := 4) rfl
        have t5 := (HT8.out.keeps HK9.out (fun h => h)).cell (i := 5) rfl
        have t6 := (HT8.out.keeps HK9.out (fun h => h)).cell (i := 6) rfl
        have t7 := (HT8.out.keeps HK9.out (fun h => h)).cell (i := 7) rfl
        have h2 := H28.out.keeps HK9.out (fun h => h)
        have x0 := h2.cell (i := 0) rfl
        have z0 := h2.free 0
        have x1 := h2.cell (i := 1) rfl
        have z1 := h2.free 1
        have x2 := h2.cell (i := 2) rfl
        have z2 := h2.free 2
        have x3 := h2.cell (i := 3) rfl
        have z3 := h2.free 3
        have x4 := h2.cell (i := 4) rfl
        have z4 := h2.free 4
        have x5 := h2.cell (i := 5) rfl
        have z5 := h2.free 5
        have x6 := h2.cell (i := 6) rfl
        have z6 := h2.free 6
        have x7 := h2.cell (i := 7) rfl
        have z7 := h2.free 7
        go_wp2_with fail
        have hkf : Keeps (· = b2) w9 ((((((((w9.setCell ⟨b2, 0, none⟩ (.string y0.1)).setCell ⟨b2, 1, none⟩ (.slice A1 y1.1.length c1)).setCell ⟨b2, 2, none⟩ (.slice A2 y2.1.length c2)).setCell ⟨b2, 3, none⟩ (.slice A3 y3.1.length c3)).setCell ⟨b2, 4, none⟩ (.slice A4 y4.1.length c4)).setCell ⟨b2, 5, none⟩ (.slice A5 y5.1.length c5)).setCell ⟨b2, 6, none⟩ (.slice A6 y6.1.length c6)).setCell ⟨b2, 7, none⟩ (.slice A7 y7.1.length c7)) := ((((((((Keeps.refl (· = b2) w9).setCell (p := ⟨b2, 0, none⟩) (fun _ => rfl) _).setCell (p := ⟨b2, 1, none⟩) (fun _ => rfl) _).setCell (p := ⟨b2, 2, none⟩) (fun _ => rfl) _).setCell (p := ⟨b2, 3, none⟩) (fun _ => rfl) _).setCell (p := ⟨b2, 4, none⟩) (fun _ => rfl) _).setCell (p := ⟨b2, 5, none⟩) (fun _ => rfl) _).setCell (p := ⟨b2, 6, none⟩) (fun _ => rfl) _).setCell (p := ⟨b2, 7, none⟩) (fun _ => rfl) _
        have hzf : ((((((((w9.setCell ⟨b2, 0, none⟩ (.string y0.1)).setCell ⟨b2, 1, none⟩ (.slice A1 y1.1.length c1)).setCell ⟨b2, 2, none⟩ (.slice A2 y2.1.length c2)).setCell ⟨b2, 3, none⟩ (.slice A3 y3.1.length c3)).setCell ⟨b2, 4, none⟩ (.slice A4 y4.1.length c4)).setCell ⟨b2, 5, none⟩ (.slice A5 y5.1.length c5)).setCell ⟨b2, 6, none⟩ (.slice A6 y6.1.length c6)).setCell ⟨b2, 7, none⟩ (.slice A7 y7.1.length c7)).heap.size = w9.heap.size := by simp [World.setCell]
        have hbf : Blk ((((((((w9.setCell ⟨b2, 0, none⟩ (.string y0.1)).setCell ⟨b2, 1, none⟩ (.slice A1 y1.1.length c1)).setCell ⟨b2, 2, none⟩ (.slice A2 y2.1.length c2)).setCell ⟨b2, 3, none⟩ (.slice A3 y3.1.length c3)).setCell ⟨b2, 4, none⟩ (.slice A4 y4.1.length c4)).setCell ⟨b2, 5, none⟩ (.slice A5 y5.1.length c5)).setCell ⟨b2, 6, none⟩ (.slice A6 y6.1.length c6)).setCell ⟨b2, 7, none⟩ (.slice A7 y7.1.length c7)) b2 33 [.string y0.1, .slice A1 y1.1.length c1, .slice A2 y2.1.length c2, .slice A3 y3.1.length c3, .slice A4 y4.1.length c4, .slice A5 y5.1.length c5, .slice A6 y6.1.length c6, .slice A7 y7.1.length c7] := ((((((((h2).set_ 0 _).set_ 1 _).set_ 2 _).set_ 3 _).set_ 4 _).set_ 5 _).set_ 6 _).set_ 7 _
        have hsz := HK9.out.size
        have hb0l := HB0.out.2
        generalize ((((((((w9.setCell ⟨b2, 0, none⟩ (.string y0.1)).setCell ⟨b2, 1, none⟩ (.slice A1 y1.1.length c1)).setCell ⟨b2, 2, none⟩ (.slice A2 y2.1.length c2)).setCell ⟨b2, 3, none⟩ (.slice A3 y3.1.length c3)).setCell ⟨b2, 4, none⟩ (.slice A4 y4.1.length c4)).setCell ⟨b2, 5, none⟩ (.slice A5 y5.1.length c5)).setCell ⟨b2, 6, none⟩ (.slice A6 y6.1.length c6)).setCell ⟨b2, 7, none⟩ (.slice A7 y7.1.length c7)) = wf at hkf hzf hbf
        exact ret_row1 rfl rfl rfl hbf Tryd.underlying33 (by kernel_rfl) rfl ⟨_, _, rfl, (HKW.out.trans HK9.out (fun _ _ h => h)).trans hkf (fun i hi h => by have := HLo.out.2; omega), .inr ⟨rfl, (⟨y0.1, y1.1, y2.1, y3.1, y4.1, y5.1, y6.1, y7.1⟩ : Iface), ((HRp.out.keeps HK9.out (fun _ _ h => h)).keeps hkf (fun i hi h => by have := hi.1.1; omega)).mono (fun b hb => by have := hb.1.2; omega), HWr.out, HZz.out⟩⟩
      · have k9 : ¬ zz = 0 := h0
        have h2 := H28.out.keeps HK9.out (fun h => h)
        have x0 := h2.cell (i := 0) rfl
        have z0 := h2.free 0
        have x1 := h2.cell (i := 1) rfl
        have z1 := h2.free 1
        have x2 := h2.cell (i := 2) rfl
        have z2 := h2.free 2
        have x3 := h2.cell (i := 3) rfl
        have z3 := h2.free 3
        have x4 := h2.cell (i := 4) rfl
        have z4 := h2.free 4
        have x5 := h2.cell (i := 5) rfl
        have z5 := h2.free 5
        have x6 := h2.cell (i := 6) rfl
        have z6 := h2.free 6
        have x7 := h2.cell (i := 7) rfl
        have z7 := h2.free 7
        go_wp2_with fail
        have hkf : Keeps (· = b2) w9 ((((((((w9.setCell ⟨b2, 0, none⟩ (.string ⟨#[]⟩)).setCell ⟨b2, 1, none⟩ (.slice none 0 0)).setCell ⟨b2, 2, none⟩ (.slice none 0 0)).setCell ⟨b2, 3, none⟩ (.slice none 0 0)).setCell ⟨b2, 4, none⟩ (.slice none 0 0)).setCell ⟨b2, 5, none⟩ (.slice none 0 0)).setCell ⟨b2, 6, none⟩ (.slice none 0 0)).setCell ⟨b2, 7, none⟩ (.slice none 0 0)) := ((((((((Keeps.refl (· = b2) w9).setCell (p := ⟨b2, 0, none⟩) (fun _ => rfl) _).setCell (p := ⟨b2, 1, none⟩) (fun _ => rfl) _).setCell (p := ⟨b2, 2, none⟩) (fun _ => rfl) _).setCell (p := ⟨b2, 3, none⟩) (fun _ => rfl) _).setCell (p := ⟨b2, 4, none⟩) (fun _ => rfl) _).setCell (p := ⟨b2, 5, none⟩) (fun _ => rfl) _).setCell (p := ⟨b2, 6, none⟩) (fun _ => rfl) _).setCell (p := ⟨b2, 7, none⟩) (fun _ => rfl) _
        have hbf : Blk ((((((((w9.setCell ⟨b2, 0, none⟩ (.string ⟨#[]⟩)).setCell ⟨b2, 1, none⟩ (.slice none 0 0)).setCell ⟨b2, 2, none⟩ (.slice none 0 0)).setCell ⟨b2, 3, none⟩ (.slice none 0 0)).setCell ⟨b2, 4, none⟩ (.slice none 0 0)).setCell ⟨b2, 5, none⟩ (.slice none 0 0)).setCell ⟨b2, 6, none⟩ (.slice none 0 0)).setCell ⟨b2, 7, none⟩ (.slice none 0 0)) b2 33 [.string ⟨#[]⟩, .slice none 0 0, .slice none 0 0, .slice none 0 0, .slice none 0 0, .slice none 0 0, .slice none 0 0, .slice none 0 0] := ((((((((h2).set_ 0 _).set_ 1 _).set_ 2 _).set_ 3 _).set_ 4 _).set_ 5 _).set_ 6 _).set_ 7 _
        generalize ((((((((w9.setCell ⟨b2, 0, none⟩ (.string ⟨#[]⟩)).setCell ⟨b2, 1, none⟩ (.slice none 0 0)).setCell ⟨b2, 2, none⟩ (.slice none 0 0)).setCell ⟨b2, 3, none⟩ (.slice none 0 0)).setCell ⟨b2, 4, none⟩ (.slice none 0 0)).setCell ⟨b2, 5, none⟩ (.slice none 0 0)).setCell ⟨b2, 6, none⟩ (.slice none 0 0)).setCell ⟨b2, 7, none⟩ (.slice none 0 0)) = wf at hkf hbf
        exact ret_row1 rfl rfl rfl hbf Tryd.underlying33 (by kernel_rfl) rfl ⟨_, _, rfl, (HKW.out.trans HK9.out (fun _ _ h => h)).trans hkf (fun i hi h => by have := HLo.out.2; omega), .inl ⟨k9, rfl⟩⟩
    · have e0 : q.toList.isEmpty = false := by
        rw [← HQ.out]
        cases rs with
        | nil => exact absurd rfl hne
        | cons a t => rw [ByteArray.toList_eq]; rfl
      clear hne
      have h2 := H28.out
      have x0 := h2.cell (i := 0) rfl
      have z0 := h2.free 0
      have x1 := h2.cell (i := 1) rfl
      have z1 := h2.free 1
      have x2 := h2.cell (i := 2) rfl
      have z2 := h2.free 2
      have x3 := h2.cell (i := 3) rfl
      have z3 := h2.free 3
      have x4 := h2.cell (i := 4) rfl
      have z4 := h2.free 4
      have x5 := h2.cell (i := 5) rfl
      have z5 := h2.free 5
      have x6 := h2.cell (i := 6) rfl
      have z6 := h2.free 6
      have x7 := h2.cell (i := 7) rfl
      have z7 := h2.free 7
      go_wp2_with fail
      have hkf : Keeps (· = b2) W8 ((((((((W8.setCell ⟨b2, 0, none⟩ (.string ⟨#[]⟩)).setCell ⟨b2, 1, none⟩ (.slice none 0 0)).setCell ⟨b2, 2, none⟩ (.slice none 0 0)).setCell ⟨b2, 3, none⟩ (.slice none 0 0)).setCell ⟨b2, 4, none⟩ (.slice none 0 0)).setCell ⟨b2, 5, none⟩ (.slice none 0 0)).setCell ⟨b2, 6, none⟩ (.slice none 0 0)).setCell ⟨b2, 7, none⟩ (.slice none 0 0)) := ((((((((Keeps.refl (· = b2) W8).setCell (p := ⟨b2, 0, none⟩) (fun _ => rfl) _).setCell (p := ⟨b2, 1, none⟩) (fun _ => rfl) _).setCell (p := ⟨b2, 2, none⟩) (fun _ => rfl) _).setCell (p := ⟨b2, 3, none⟩) (fun _ => rfl) _).setCell (p := ⟨b2, 4, none⟩) (fun _ => rfl) _).setCell (p := ⟨b2, 5, none⟩) (fun _ => rfl) _).setCell (p := ⟨b2, 6, none⟩) (fun _ => rfl) _).setCell (p := ⟨b2, 7, none⟩) (fun _ => rfl) _
      have hbf : Blk ((((((((W8.setCell ⟨b2, 0, none⟩ (.string ⟨#[]⟩)).setCell ⟨b2, 1, none⟩ (.slice none 0 0)).setCell ⟨b2, 2, none⟩ (.slice none 0 0)).setCell ⟨b2, 3, none⟩ (.slice none 0 0)).setCell ⟨b2, 4, none⟩ (.slice none 0 0)).setCell ⟨b2, 5, none⟩ (.slice none 0 0)).setCell ⟨b2, 6, none⟩ (.slice none 0 0)).setCell ⟨b2, 7, none⟩ (.slice none 0 0)) b2 33 [.string ⟨#[]⟩, .slice none 0 0, .slice none 0 0, .slice none 0 0, .slice none 0 0, .slice none 0 0, .slice none 0 0, .slice none 0 0] := ((((((((h2).set_ 0 _).set_ 1 _).set_ 2 _).set_ 3 _).set_ 4 _).set_ 5 _).set_ 6 _).set_ 7 _
      generalize ((((((((W8.setCell ⟨b2, 0, none⟩ (.string ⟨#[]⟩)).setCell ⟨b2, 1, none⟩ (.slice none 0 0)).setCell ⟨b2, 2, none⟩ (.slice none 0 0)).setCell ⟨b2, 3, none⟩ (.slice none 0 0)).setCell ⟨b2, 4, none⟩ (.slice none 0 0)).setCell ⟨b2, 5, none⟩ (.slice none 0 0)).setCell ⟨b2, 6, none⟩ (.slice none 0 0)).setCell ⟨b2, 7, none⟩ (.slice none 0 0)) = wf at hkf hbf
      exact ret_row1 rfl rfl rfl hbf Tryd.underlying33 (by kernel_rfl) rfl ⟨_, _, rfl, HKW.out.trans hkf (fun i hi h => by have := HLo.out.2; omega), .inl ⟨by decide, rfl⟩⟩
  ·
    have h2 := H28.out
    have x0 := h2.cell (i := 0) rfl
    have z0 := h2.free 0
    have x1 := h2.cell (i := 1) rfl
    have z1 := h2.free 1
    have x2 := h2.cell (i := 2) rfl
    have z2 := h2.free 2
    have x3 := h2.cell (i := 3) rfl
    have z3 := h2.free 3
    have x4 := h2.cell (i := 4) rfl
    have z4 := h2.free 4
    have x5 := h2.cell (i := 5) rfl
    have z5 := h2.free 5
    have x6 := h2.cell (i := 6) rfl
    have z6 := h2.free 6
    have x7 := h2.cell (i := 7) rfl
    have z7 := h2.free 7
    go_wp2_with fail
    have hkf : Keeps (· = b2) W8 ((((((((W8.setCell ⟨b2, 0, none⟩ (.string ⟨#[]⟩)).setCell ⟨b2, 1, none⟩ (.slice none 0 0)).setCell ⟨b2, 2, none⟩ (.slice none 0 0)).setCell ⟨b2, 3, none⟩ (.slice none 0 0)).setCell ⟨b2, 4, none⟩ (.slice none 0 0)).setCell ⟨b2, 5, none⟩ (.slice none 0 0)).setCell ⟨b2, 6, none⟩ (.slice none 0 0)).setCell ⟨b2, 7, none⟩ (.slice none 0 0)) := ((((((((Keeps.refl (· = b2) W8).setCell (p := ⟨b2, 0, none⟩) (fun _ => rfl) _).setCell (p := ⟨b2, 1, none⟩) (fun _ => rfl) _).setCell (p := ⟨b2, 2, none⟩) (fun _ => rfl) _).setCell (p := ⟨b2, 3, none⟩) (fun _ => rfl) _).setCell (p := ⟨b2, 4, none⟩) (fun _ => rfl) _).setCell (p := ⟨b2, 5, none⟩) (fun _ => rfl) _).setCell (p := ⟨b2, 6, none⟩) (fun _ => rfl) _).setCell (p := ⟨b2, 7, none⟩) (fun _ => rfl) _
    have hbf : Blk ((((((((W8.setCell ⟨b2, 0, none⟩ (.string ⟨#[]⟩)).setCell ⟨b2, 1, none⟩ (.slice none 0 0)).setCell ⟨b2, 2, none⟩ (.slice none 0 0)).setCell ⟨b2, 3, none⟩ (.slice none 0 0)).setCell ⟨b2, 4, none⟩ (.slice none 0 0)).setCell ⟨b2, 5, none⟩ (.slice none 0 0)).setCell ⟨b2, 6, none⟩ (.slice none 0 0)).setCell ⟨b2, 7, none⟩ (.slice none 0 0)) b2 33 [.string ⟨#[]⟩, .slice none 0 0, .slice none 0 0, .slice none 0 0, .slice none 0 0, .slice none 0 0, .slice none 0 0, .slice none 0 0] := ((((((((h2).set_ 0 _).set_ 1 _).set_ 2 _).set_ 3 _).set_ 4 _).set_ 5 _).set_ 6 _).set_ 7 _
    generalize ((((((((W8.setCell ⟨b2, 0, none⟩ (.string ⟨#[]⟩)).setCell ⟨b2, 1, none⟩ (.slice none 0 0)).setCell ⟨b2, 2, none⟩ (.slice none 0 0)).setCell ⟨b2, 3, none⟩ (.slice none 0 0)).setCell ⟨b2, 4, none⟩ (.slice none 0 0)).setCell ⟨b2, 5, none⟩ (.slice none 0 0)).setCell ⟨b2, 6, none⟩ (.slice none 0 0)).setCell ⟨b2, 7, none⟩ (.slice none 0 0)) = wf at hkf hbf
    exact ret_row1 rfl rfl rfl hbf Tryd.underlying33 (by kernel_rfl) rfl ⟨_, _, rfl, HKW.out.trans hkf (fun i hi h => by have := HLo.out.2; omega), .inl ⟨by decide, rfl⟩⟩
end If
end Go.Proofs.YtcbkihplchdhhaaDoor
