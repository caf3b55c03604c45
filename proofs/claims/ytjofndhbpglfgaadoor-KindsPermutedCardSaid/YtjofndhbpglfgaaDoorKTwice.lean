/- kinds.Infer, where the first data type has a kind already. -/
import Derived.Test.YtjofndhbpglfgaaDoorKFst
namespace Go.Proofs.YtjofndhbpglfgaaDoor
open Go.RowKit Go.Shelf

set_option maxRecDepth 100000 in
set_option maxHeartbeats 4000000 in
theorem infer_twice (known : List KindSig) (d : DataSig) (r : List DataSig) (k : KindSig) (kv dv : Value) (W : World) (hk : Sl W (· < W.heap.size) KindSig.d known kv) (hd : Sl W (· < W.heap.size) DataSig.d (d :: r) dv)
    (hc : chkK known = 0) (hl : (d :: r).length ≤ 4096) (hf : known.find? (named d.name) = some k) :
    Calls Tryd.prog 12 #[kv, dv] W fun e w' => e = .returned (.tuple #[.slice none 0 0, .int .i64 7]) ∧ Below W.heap.size W w' := by
  obtain ⟨KA, kc, rfl, _⟩ := hk.form
  obtain ⟨DA, dc, rfl, _⟩ := hd.form
  obtain ⟨n, hn⟩ : ∃ n, (d :: r).length = n := ⟨_, rfl⟩
  have hn0 : 0 < n := by rw [← hn]; simp
  obtain ⟨gd, off, cv, hadr, hgd, e0, e1, e2, _, _, hcons⟩ := DataSig.get hd (i := 0) (by simp)
  obtain rfl := hadr
  obtain ⟨CA, cc, rfl, _⟩ := hcons.form
  rw [Nat.zero_mul, Nat.add_zero] at e0 e1 e2
  rw [List.getElem_cons_zero] at e0 e1 e2
  have HC1 := Lib.hid (kcheck_any known _ _ W hk)
  rw [hc] at HC1
  have HK := Lib.hid hk
  have HD := Lib.hid hd
  rw [hn] at HD hl ⊢
  have HF := Lib.hid hf
  have hgz := block_lt_of_cell e0
  have l0 : ¬ (4096 : Int) < (n : Int) := by omega
  have l1 : (0 : Int) < (n : Int) := by omega
  obtain ⟨Z, hZ⟩ : ∃ Z, W.heap.size = Z := ⟨_, rfl⟩
  have HZ := Lib.hid hZ
  clear hk hd hc hf hcons hn hZ
  go_enter Tryd.func12, Tryd.ntmps12
  go_wp2_with fail
  with_reducible refine HC1.out.mono ?_
  rintro e w1 ⟨rfl, hb1⟩
  have HB1 := Lib.hid hb1
  have HSt := Lib.hid (started_any known (d :: r) _ _ w1 ((HK.out.later hb1).mono (fun b hb => Nat.lt_of_lt_of_le hb hb1.size)) ((HD.out.later hb1).mono (fun b hb => Nat.lt_of_lt_of_le hb hb1.size)))
  clear hb1
  go_wp2_with fail
  with_reducible refine HSt.out.mono ?_
  rintro e w2 ⟨hb2, p, uv, cv2, rfl, _⟩
  have hb3 : Below Z W w2 := by
    rw [← HZ.out]; exact HB1.out.trans (hb2.mono HB1.out.size)
  have f0 := (hb3.cell (show gd < Z by have := HZ.out; omega)).trans e0
  have f1 := (hb3.cell (show gd < Z by have := HZ.out; omega)).trans e1
  have f2 := (hb3.cell (show gd < Z by have := HZ.out; omega)).trans e2
  have hz2 := hb3.size
  obtain ⟨b, hb⟩ : ∃ b, w2.heap.size = b := ⟨_, rfl⟩
  obtain ⟨W3, hW3⟩ : ∃ W3, w2.alloc (.cells #[.string d.name, .int .i64 d.params, .slice CA d.cons.length cc] 32) = W3 := ⟨_, rfl⟩
  have hb4 : Below Z W W3 := by rw [← hW3]; exact hb3.alloc (by have := HZ.out; omega) _
  have hbk : Blk W3 b 32 [.string d.name, .int .i64 d.params, .slice CA d.cons.length cc] := by rw [← hW3, ← hb]; exact Blk.new w2 _ [_, _, _]
  have k0 := hbk.cell (i := 0) rfl
  have k1 := hbk.cell (i := 1) rfl
  have hbl := hbk.lt
  have HFi := Lib.hid (find_any known d.name _ _ W3 (HK.out.later (by rw [HZ.out]; exact hb4)))
  have HB4 := Lib.hid hb4
  have HW3 := Lib.hid hW3
  have HBb := Lib.hid hb
  have hz4 := hb4.size
  clear hb2 hb3 hb4 hbk hW3 hb e0 e1 e2
  go_wp2_with fail
  go_loopw [8, 9, 10, 11, 40] (fun _ _ _ _ i wr => i = .int .i64 0 ∧ wr = w2) (fun _ _ _ _ _ _ => 0)
  case atStart => exact ⟨rfl, rfl⟩
  case round =>
    obtain ⟨rfl, rfl⟩ := hrel
    go_wp2_with fail
    rw [HW3.out, HBb.out]
    with_reducible refine HFi.out.mono ?_
    rintro e w4 ⟨hb5, (⟨k', v, hk', rfl, _⟩ | ⟨hk', rfl⟩)⟩
    · have hb6 := HB4.out.trans (hb5.mono (by have := HZ.out; omega))
      have HB6 := Lib.hid hb6
      have g0 := (hb5.cell (block_lt_of_cell k0)).trans k0
      clear hb5 hb6
      go_wp2_with fail
      go_ret2
      refine ⟨rfl, ?_⟩
      rw [HZ.out]; exact HB6.out
    · rw [HF.out] at hk'; cases hk'
end Go.Proofs.YtjofndhbpglfgaaDoor
