/- iface.Encode: what it answers. -/
import Derived.Test.YtcbkihplchdhhaaDoorIfCk
import Derived.Laws.IdiomStrings
namespace Go.Proofs.YtcbkihplchdhhaaDoor
open Go.RowKit Go.Shelf

namespace If
theorem faceW_pos (f : Iface) : 0 < (faceW f).length := by unfold faceW; simp only [List.length_append, textW_len]; omega
set_option maxRecDepth 100000 in
set_option maxHeartbeats 16000000 in
theorem Encode_bad (W : World) (f : Iface) (F : Nat → Prop) (cs : List Value) (h : Rp W F f.d cs) (hF : ∀ b, F b → b < W.heap.size) (hz : Szs W) (hn : (faceW f).length ≤ 4194304) (r : Int) (hc : checkP f = r) (h0 : ¬ r = 0) :
    Calls Tryd.prog 4 #[.agg cs.toArray] W fun e w' => e = .returned (.tuple #[.string ⟨#[]⟩, .int .i64 r]) ∧ Keeps (fun _ => False) W w' := by
  have hR := h
  obtain ⟨v1, v2, v3, v4, v5, v6, v7, rfl, -, s1, s2, s3, s4, s5, s6, s7⟩ := Iface.rp.1 h
  obtain ⟨A1, q1, rfl, -, -, -⟩ := s1.form
  obtain ⟨A2, q2, rfl, -, -, -⟩ := s2.form
  obtain ⟨A3, q3, rfl, -, -, -⟩ := s3.form
  obtain ⟨A4, q4, rfl, -, -, -⟩ := s4.form
  obtain ⟨A5, q5, rfl, -, -, -⟩ := s5.form
  obtain ⟨A6, q6, rfl, -, -, -⟩ := s6.form
  obtain ⟨A7, q7, rfl, -, -, -⟩ := s7.form
  obtain ⟨b0, hb0⟩ : ∃ b, W.heap.size = b := ⟨_, rfl⟩
  obtain ⟨W0, hW0⟩ : ∃ W0, W.alloc (.cells #[.string f.module, .slice A1 f.imports.length q1, .slice A2 f.fixes.length q2, .slice A3 f.datas.length q3, .slice A4 f.classes.length q4, .slice A5 f.insts.length q5, .slice A6 f.ops.length q6, .slice A7 f.vals.length q7] 33) = W0 := ⟨_, rfl⟩
  have hkw : Keeps (fun _ => False) W W0 := by rw [← hW0]; exact (Keeps.refl _ _).alloc _
  have hbx : Blk W0 b0 33 [.string f.module, .slice A1 f.imports.length q1, .slice A2 f.fixes.length q2, .slice A3 f.datas.length q3, .slice A4 f.classes.length q4, .slice A5 f.insts.length q5, .slice A6 f.ops.length q6, .slice A7 f.vals.length q7] := by rw [← hW0, ← hb0]; exact Blk.new W _ [_, _, _, _, _, _, _, _]
  have hR0 := hR.keeps hkw (fun _ _ h => h)
  have hF0 : ∀ b, F b → b < W0.heap.size := fun b hb => Nat.lt_of_lt_of_le (hF b hb) hkw.size
  have hCk := Check_any W0 f F [.string f.module, .slice A1 f.imports.length q1, .slice A2 f.fixes.length q2, .slice A3 f.datas.length q3, .slice A4 f.classes.length q4, .slice A5 f.insts.length q5, .slice A6 f.ops.length q6, .slice A7 f.vals.length q7] hR0 hF0 (hz.keeps hkw (fun h => h)) hn
  rw [hc] at hCk
  have HCk := Lib.hid hCk
  have HBx : Hid (∀ X, Keeps (fun _ => False) W0 X → Blk X b0 33 [.string f.module, .slice A1 f.imports.length q1, .slice A2 f.fixes.length q2, .slice A3 f.datas.length q3, .slice A4 f.classes.length q4, .slice A5 f.insts.length q5, .slice A6 f.ops.length q6, .slice A7 f.vals.length q7]) := fun X hX => hbx.keeps hX (fun h => h)
  have HR := Lib.hid hR0
  have HF := Lib.hid hF0
  have HN := Lib.hid hn
  have HK := Lib.hid hkw
  have HW0 := Lib.hid hW0
  have HB0 := Lib.hid hb0
  have x0 := hbx.cell (i := 0) rfl
  have x1 := hbx.cell (i := 1) rfl
  have x2 := hbx.cell (i := 2) rfl
  have x3 := hbx.cell (i := 3) rfl
  have x4 := hbx.cell (i := 4) rfl
  have x5 := hbx.cell (i := 5) rfl
  have x6 := hbx.cell (i := 6) rfl
  have x7 := hbx.cell (i := 7) rfl
  clear h hR hF hz hn hc hb0 hW0 hkw hbx hR0 hF0 hCk s1 s2 s3 s4 s5 s6 s7
  go_enter Tryd.func4, Tryd.ntmps4
  go_upto_region 1 with (fail)
  rw [HW0.out, HB0.out]
  go_wp2_with fail
  refine HCk.out.mono ?_
  rintro e w1 ⟨rfl, hk1⟩
  have HK1 := Lib.hid hk1
  clear hk1 x0 x1 x2 x3 x4 x5 x6 x7
  go_wp2_with fail
  go_ret2
  exact ⟨rfl, HK.out.trans HK1.out (fun _ _ h => h)⟩
set_option maxRecDepth 100000 in
set_option maxHeartbeats 16000000 in
theorem Encode_ok (W : World) (f : Iface) (F : Nat → Prop) (cs : List Value) (h : Rp W F f.d cs) (hF : ∀ b, F b → b < W.heap.size) (hz : Szs W) (hn : (faceW f).length ≤ 4194304) (hc : checkP f = 0) :
    Calls Tryd.prog 4 #[.agg cs.toArray] W fun e w' => e = .returned (.tuple #[.string (bstr (faceW f)), .int .i64 0]) ∧ Keeps (fun _ => False) W w' := by
  have hR := h
  obtain ⟨v1, v2, v3, v4, v5, v6, v7, rfl, -, s1, s2, s3, s4, s5, s6, s7⟩ := Iface.rp.1 h
  obtain ⟨A1, q1, rfl, -, -, -⟩ := s1.form
  obtain ⟨A2, q2, rfl, -, -, -⟩ := s2.form
  obtain ⟨A3, q3, rfl, -, -, -⟩ := s3.form
  obtain ⟨A4, q4, rfl, -, -, -⟩ := s4.form
  obtain ⟨A5, q5, rfl, -, -, -⟩ := s5.form
  obtain ⟨A6, q6, rfl, -, -, -⟩ := s6.form
  obtain ⟨A7, q7, rfl, -, -, -⟩ := s7.form
  obtain ⟨b0, hb0⟩ : ∃ b, W.heap.size = b := ⟨_, rfl⟩
  obtain ⟨W0, hW0⟩ : ∃ W0, W.alloc (.cells #[.string f.module, .slice A1 f.imports.length q1, .slice A2 f.fixes.length q2, .slice A3 f.datas.length q3, .slice A4 f.classes.length q4, .slice A5 f.insts.length q5, .slice A6 f.ops.length q6, .slice A7 f.vals.length q7] 33) = W0 := ⟨_, rfl⟩
  have hkw : Keeps (fun _ => False) W W0 := by rw [← hW0]; exact (Keeps.refl _ _).alloc _
  have hbx : Blk W0 b0 33 [.string f.module, .slice A1 f.imports.length q1, .slice A2 f.fixes.length q2, .slice A3 f.datas.length q3, .slice A4 f.classes.length q4, .slice A5 f.insts.length q5, .slice A6 f.ops.length q6, .slice A7 f.vals.length q7] := by rw [← hW0, ← hb0]; exact Blk.new W _ [_, _, _, _, _, _, _, _]
  have hR0 := hR.keeps hkw (fun _ _ h => h)
  have hF0 : ∀ b, F b → b < W0.heap.size := fun b hb => Nat.lt_of_lt_of_le (hF b hb) hkw.size
  have hCk := Check_any W0 f F [.string f.module, .slice A1 f.imports.length q1, .slice A2 f.fixes.length q2, .slice A3 f.datas.length q3, .slice A4 f.classes.length q4, .slice A5 f.insts.length q5, .slice A6 f.ops.length q6, .slice A7 f.vals.length q7] hR0 hF0 (hz.keeps hkw (fun h => h)) hn
  rw [hc] at hCk
  have HCk := Lib.hid hCk
  have HBx : Hid (∀ X, Keeps (fun _ => False) W0 X → Blk X b0 33 [.string f.module, .slice A1 f.imports.length q1, .slice A2 f.fixes.length q2, .slice A3 f.datas.length q3, .slice A4 f.classes.length q4, .slice A5 f.insts.length q5, .slice A6 f.ops.length q6, .slice A7 f.vals.length q7]) := fun X hX => hbx.keeps hX (fun h => h)
  have HR := Lib.hid hR0
  have HF := Lib.hid hF0
  have HN := Lib.hid hn
  have HK := Lib.hid hkw
  have HW0 := Lib.hid hW0
  have HB0 := Lib.hid hb0
  have x0 := hbx.cell (i := 0) rfl
  have x1 := hbx.cell (i := 1) rfl
  have x2 := hbx.cell (i := 2) rfl
  have x3 := hbx.cell (i := 3) rfl
  have x4 := hbx.cell (i := 4) rfl
  have x5 := hbx.cell (i := 5) rfl
  have x6 := hbx.cell (i := 6) rfl
  have x7 := hbx.cell (i := 7) rfl
  clear h hR hF hz hn hc hb0 hW0 hkw hbx hR0 hF0 hCk s1 s2 s3 s4 s5 s6 s7
  go_enter Tryd.func4, Tryd.ntmps4
  go_upto_region 1 with (fail)
  rw [HW0.out, HB0.out]
  go_wp2_with fail
  refine HCk.out.mono ?_
  rintro e w1 ⟨rfl, hk1⟩
  have HK1 := Lib.hid hk1
  clear hk1 x0 x1 x2 x3 x4 x5 x6 x7
  obtain ⟨bw, hbw⟩ : ∃ b, w1.heap.size = b := ⟨_, rfl⟩
  obtain ⟨W6, hW6⟩ : ∃ w, w1.alloc (.cells #[.slice none 0 0] 43) = w := ⟨_, rfl⟩
  have hk6 : Keeps (fun _ => False) W0 W6 := by rw [← hW6]; exact HK1.out.alloc _
  have hb6 : Blk W6 bw 43 [.slice none 0 0] := by rw [← hW6, ← hbw]; exact Blk.new w1 _ [_]
  have hBB : W0.heap.size ≤ bw := by rw [← hbw]; exact HK1.out.size
  have hlo : ∀ i, Own2 bw (.slice none 0 0) i → W0.heap.size ≤ i := fun i hi => by
    rcases hi with h | h
    · omega
    · cases h
  have hw0 : WrAt W6 W0.heap.size bw (.slice none 0 0) [] := ⟨hb6, ⟨rfl, .inl ⟨rfl, rfl⟩⟩⟩
  have HFc := Lib.hid (wface_fn W6 W0.heap.size bw (.slice none 0 0) hBB hlo f F [.string f.module, .slice A1 f.imports.length q1, .slice A2 f.fixes.length q2, .slice A3 f.datas.length q3, .slice A4 f.classes.length q4, .slice A5 f.insts.length q5, .slice A6 f.ops.length q6, .slice A7 f.vals.length q7] W6 [] (HR.out.keeps hk6 (fun _ _ h => h)) HF.out hw0.to (by rw [List.length_nil]; have := HN.out; omega))
  have hbx6 := HBx.out _ hk6
  have x0 := hbx6.cell (i := 0) rfl
  have x1 := hbx6.cell (i := 1) rfl
  have x2 := hbx6.cell (i := 2) rfl
  have x3 := hbx6.cell (i := 3) rfl
  have x4 := hbx6.cell (i := 4) rfl
  have x5 := hbx6.cell (i := 5) rfl
  have x6 := hbx6.cell (i := 6) rfl
  have x7 := hbx6.cell (i := 7) rfl
  have HK6 := Lib.hid hk6
  have HLo := Lib.hid hlo
  have HW6 := Lib.hid hW6
  have HBw := Lib.hid hbw
  clear hk6 hb6 hlo hw0 hW6 hbw hbx6 hBB
  go_upto_region 5 with (fail)
  rw [HW6.out, HBw.out]
  go_wp2_with fail
  refine HFc.out.mono ?_
  rintro e w7 ⟨rfl, v7', hw7, hk7, -⟩
  rw [List.nil_append] at hw7
  obtain ⟨g7, c7, rfl, -⟩ := World.ownsRow.form hw7.row (faceW_pos f)
  have z0 := hw7.box.cell (i := 0) rfl
  have hback := run_convert_bytes_back (P := Tryd.prog) w7 35 9 5 ⟨g7, 0, none⟩ c7 (faceW f) Tryd.underlying35 Tryd.underlying5 Tryd.underlying9 (fun j hj => hw7.row.cells rfl j _ (by unfold u8s; rw [List.getElem?_map, List.getElem?_eq_getElem hj]; rfl))
  have HK7 : Hid (Keeps (fun _ => False) W w7) := (HK.out.trans HK6.out (fun _ _ h => h)).trans hk7 (fun i hi h => by have := HLo.out i h; have := HK.out.size; omega)
  obtain ⟨fs, hfs⟩ : ∃ s, (⟨(faceW f).toArray⟩ : ByteArray) = s := ⟨_, rfl⟩
  have HFs := Lib.hid hfs
  rw [hfs] at hback
  clear hw7 hk7 x0 x1 x2 x3 x4 x5 x6 x7 hfs
  go_wp2_with fail
  go_ret2
  exact ⟨by rw [← HFs.out]; rfl, HK7.out⟩
end If
end Go.Proofs.YtcbkihplchdhhaaDoor
