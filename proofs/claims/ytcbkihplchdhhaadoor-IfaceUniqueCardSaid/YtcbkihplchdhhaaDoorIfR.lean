/- The reader of an encoding in memory; num, many, text. -/
import Derived.Test.YtcbkihplchdhhaaDoorIfW
import Derived.Deep.QuietTactic
import Derived.BigQuiet
import Derived.Lib.ConvBytes
import Derived.Laws.IdiomStrings
namespace Go.Proofs.YtcbkihplchdhhaaDoor
open Go.RowKit Go.Shelf

namespace If
def bstr (s : Bs) : ByteArray := ⟨s.toArray⟩
theorem bstr_size (s : Bs) : (bstr s).size = s.length := by simp [bstr, ByteArray.size]
theorem bstr_ext (s : Bs) (a b : Nat) : (bstr s).extract a b = bstr ((s.take b).drop a) := by
  apply str_inj
  rw [ByteArray.toList_eq, ByteArray.toList_eq, ByteArray.data_extract]
  show (s.toArray.extract a b).toList = ((s.take b).drop a).toArray.toList
  simp [List.drop_take]
theorem bstr_drop (s : Bs) (a : Nat) : (bstr s).extract a (bstr s).size = bstr (s.drop a) := by
  rw [bstr_size, bstr_ext s, List.take_of_length_le (Nat.le_refl _)]
theorem bstr_take (s : Bs) (a : Nat) : (bstr s).extract 0 a = bstr (s.take a) := by
  rw [bstr_ext s, List.drop_zero]
theorem bits_or_u32_nat (a b : Nat) (ha : a < 4294967296) (hb : b < 4294967296) : bits .or .u32 (a : Int) (b : Int) = ((a ||| b : Nat) : Int) := by
  have hx : a ||| b < 2 ^ 32 := Nat.or_lt_two_pow (by omega) (by omega)
  have h1 : (BitVec.ofInt 32 (a : Int)).toNat = a := by
    rw [BitVec.ofInt_natCast, BitVec.toNat_ofNat]; exact Nat.mod_eq_of_lt (by omega)
  have h2 : (BitVec.ofInt 32 (b : Int)).toNat = b := by
    rw [BitVec.ofInt_natCast, BitVec.toNat_ofNat]; exact Nat.mod_eq_of_lt (by omega)
  show IntKind.u32.wrap ((BitVec.ofInt 32 (a : Int) ||| BitVec.ofInt 32 (b : Int)).toNat : Int) = _
  rw [BitVec.toNat_or, h1, h2, IntKind.wrap_u32]
  omega
theorem or_sum (k p a b : Nat) (hp : p = 2 ^ k) (hb : b < p) (ha : a * p + b < 4294967296) : bits .or .u32 ((a * p : Nat) : Int) (b : Int) = ((a * p + b : Nat) : Int) := by
  have h0 : 0 < p := by omega
  rw [bits_or_u32_nat _ _ (by omega) (by have := Nat.le_mul_of_pos_right a h0; omega)]
  subst hp
  rw [← Nat.shiftLeft_eq, Nat.shiftLeft_add_eq_or_of_lt hb]
theorem dec_nat (a b c d : Nat) (ha : a < 256) (hb : b < 256) (hc : c < 256) (hd : d < 256) : bits BinOp.or IntKind.u32 (bits BinOp.or IntKind.u32 (bits BinOp.or IntKind.u32 ((a : Int) % 4294967296 * 16777216 % 4294967296) ((b : Int) % 4294967296 * 65536 % 4294967296)) ((c : Int) % 4294967296 * 256 % 4294967296)) ((d : Int) % 4294967296) = ((a * 16777216 + b * 65536 + c * 256 + d : Nat) : Int) := by
  have e1 : ((a : Int) % 4294967296 * 16777216 % 4294967296) = ((a * 16777216 : Nat) : Int) := by omega
  have e2 : ((b : Int) % 4294967296 * 65536 % 4294967296) = ((b * 65536 : Nat) : Int) := by omega
  have e3 : ((c : Int) % 4294967296 * 256 % 4294967296) = ((c * 256 : Nat) : Int) := by omega
  have e4 : ((d : Int) % 4294967296) = ((d : Nat) : Int) := by omega
  rw [e1, e2, e3, e4, or_sum 24 16777216 a (b * 65536) rfl (by omega) (by omega)]
  rw [show (a * 16777216 + b * 65536) = (a * 256 + b) * 65536 from by omega, or_sum 16 65536 _ (c * 256) rfl (by omega) (by omega)]
  rw [show ((a * 256 + b) * 65536 + c * 256) = (a * 65536 + b * 256 + c) * 256 from by omega, or_sum 8 256 _ d rfl (by omega) (by omega)]
theorem dec_bits (a b c d : UInt8) : wrap64 (wrap32 (bits BinOp.or IntKind.u32 (bits BinOp.or IntKind.u32 (bits BinOp.or IntKind.u32 ((a.toNat : Int) % 4294967296 * 16777216 % 4294967296) ((b.toNat : Int) % 4294967296 * 65536 % 4294967296)) ((c.toNat : Int) % 4294967296 * 256 % 4294967296)) ((d.toNat : Int) % 4294967296))) = dec4 a b c d := by
  have ha := a.toNat_lt
  have hb := b.toNat_lt
  have hc := c.toNat_lt
  have hd := d.toNat_lt
  rw [dec_nat _ _ _ _ ha hb hc hd]
  unfold dec4 u4
  have hm : ((a.toNat * 16777216 + b.toNat * 65536 + c.toNat * 256 + d.toNat : Nat) : Int) < 4294967296 := by omega
  generalize a.toNat * 16777216 + b.toNat * 65536 + c.toNat * 256 + d.toNat = m at *
  unfold wrap64 wrap32
  split <;> omega
/-- The reader in memory. -/
def RdAt (w : World) (br : Nat) (r : R) (deep : Int) : Prop := Blk w br 65 [.string (bstr r.s), .bool r.bad, .int .i64 deep]
theorem numR_cases (r : R) : (∃ a b c d t, r.s = a :: b :: c :: d :: t ∧ numR r = (dec4 a b c d, ⟨t, r.bad⟩)) ∨ (r.s.length < 4 ∧ numR r = (0, ⟨[], true⟩)) := by
  obtain ⟨s, bad⟩ := r
  match s with
  | a :: b :: c :: d :: t => exact .inl ⟨a, b, c, d, t, rfl, rfl⟩
  | [] => exact .inr ⟨by simp, rfl⟩
  | [_] => exact .inr ⟨by simp, rfl⟩
  | [_, _] => exact .inr ⟨by simp, rfl⟩
  | [_, _, _] => exact .inr ⟨by simp, rfl⟩
theorem numR_len (r : R) : (numR r).2.s.length ≤ r.s.length := by
  rcases numR_cases r with ⟨a, b, c, d, t, h1, h2⟩ | ⟨h1, h2⟩
  · rw [h1, h2]
    simp only [List.length_cons]; omega
  · rw [h2]; exact Nat.zero_le _
theorem numR_wf (r : R) : -2147483648 ≤ (numR r).1 ∧ (numR r).1 ≤ 2147483647 := by
  rcases numR_cases r with ⟨a, b, c, d, t, h1, h2⟩ | ⟨h1, h2⟩
  · rw [h2]; dsimp only; exact dec4_lo a b c d
  · rw [h2]; dsimp only; omega
set_option maxRecDepth 100000 in
set_option maxHeartbeats 4000000 in
theorem rnum_any (W : World) (br : Nat) (r : R) (deep : Int) (h : RdAt W br r deep) :
    Calls Tryd.prog 50 #[.pointer (some ⟨br, 0, none⟩)] W (fun e w' => e = .returned (.int .i64 (numR r).1) ∧ RdAt w' br (numR r).2 deep ∧ Keeps (· = br) W w') := by
  obtain ⟨s, bad⟩ := r
  unfold RdAt at h
  have c0 := h.cell (i := 0) rfl
  have c1 := h.cell (i := 1) rfl
  have f0 := h.free 0
  have f1 := h.free 1
  have HW := Lib.hid h
  have hbs := bstr_size s
  clear h
  rcases numR_cases ⟨s, bad⟩ with ⟨a, b, c, d, t, hs, hR⟩ | ⟨hs, hR⟩
  · dsimp only at hs hR
    subst hs
    obtain ⟨z, hz⟩ : ∃ z, bstr (a :: b :: c :: d :: t) = z := ⟨_, rfl⟩
    have hzs : (z.size : Int) = t.length + 4 := by rw [← hz, hbs]; simp; omega
    rw [hz] at c0
    have k0 : ¬ ((z.size : Nat) : Int) < 4 := by omega
    have k1 : (0 : Int) < (z.size : Int) := by omega
    have k2 : (1 : Int) < (z.size : Int) := by omega
    have k3 : (2 : Int) < (z.size : Int) := by omega
    have k4 : (3 : Int) < (z.size : Int) := by omega
    have n1 : 0 < z.size := by omega
    have n2 : 1 < z.size := by omega
    have n3 : 2 < z.size := by omega
    have n4 : 3 < z.size := by omega
    have HE : Hid (z[0] = a ∧ z[1] = b ∧ z[2] = c ∧ z[3] = d) := by subst hz; exact ⟨rfl, rfl, rfl, rfl⟩
    obtain ⟨y, hy⟩ : ∃ y, dec4 a b c d = y := ⟨_, rfl⟩
    rw [hR]
    dsimp only
    rw [hy]
    have HY := Lib.hid hy
    have HZ := Lib.hid hz
    have HS := Lib.hid hzs
    clear hbs hz hzs hR hy
    go_enter Tryd.func50, Tryd.ntmps50
    go_wp2_with fail
    go_quiet (fail)
    go_wp2_with fail
    rw [HE.out.1, HE.out.2.1, HE.out.2.2.1, HE.out.2.2.2, dec_bits, HY.out]
    go_ret
    refine ⟨rfl, ?_, (Keeps.refl (· = br) W).drewN _ |>.setCell (p := ⟨br, 0, none⟩) (fun _ => rfl) _⟩
    have h1 := (HW.out.drewN nq).set_ 0 (.string (z.extract 4 z.size))
    rw [← HZ.out, bstr_drop] at h1
    rw [← HZ.out, bstr_drop]
    exact h1
  · have k0 : ((s.length : Nat) : Int) < 4 := by
      have : s.length < 4 := hs
      omega
    rw [hR]
    clear hR hs
    go_enter Tryd.func50, Tryd.ntmps50
    go_wp2_with fail
    go_ret
    exact ⟨rfl, (HW.out.set_ 0 _).set_ 1 _, ((Keeps.refl (· = br) W).setCell (p := ⟨br, 0, none⟩) (fun _ => rfl) _).setCell (p := ⟨br, 1, none⟩) (fun _ => rfl) _⟩
theorem manyR_len (k : Nat) (r : R) : (manyR k r).2.s.length ≤ r.s.length := by
  have := numR_len r
  unfold manyR
  dsimp only
  split <;> exact this
theorem manyR_le (k : Nat) (r : R) : (manyR k r).1 ≤ (manyR k r).2.s.length / k := by
  unfold manyR
  dsimp only
  split
  · exact Nat.zero_le _
  · dsimp only; omega
set_option maxRecDepth 100000 in
set_option maxHeartbeats 4000000 in
theorem rmany_any (W : World) (br : Nat) (r : R) (deep : Int) (k : Nat) (hk : 0 < k) (hk4 : k ≤ 4) (h : RdAt W br r deep) (hl : r.s.length ≤ 1048576) :
    Calls Tryd.prog 49 #[.pointer (some ⟨br, 0, none⟩), .int .i64 (k : Int)] W (fun e w' => e = .returned (.int .i64 (((manyR k r).1 : Nat) : Int)) ∧ RdAt w' br (manyR k r).2 deep ∧ Keeps (· = br) W w') := by
  have HN := Lib.hid (rnum_any W br r deep h)
  have hw := numR_wf r
  have hle := numR_len r
  have hM : manyR k r = if (numR r).1 < 0 ∨ (((numR r).2.s.length / k : Nat) : Int) < (numR r).1 then (0, ⟨(numR r).2.s, true⟩) else ((numR r).1.toNat, (numR r).2) := rfl
  rw [hM]
  generalize numR r = y at HN hw hle
  obtain ⟨n, s, bad⟩ := y
  dsimp only at HN hw hle ⊢
  clear h hM
  have kk : (1 : Int) ≤ (k : Int) := by omega
  have kk0 : ¬ ((k : Int) = 0) := by omega
  have kk4 : (k : Int) ≤ 4 := by omega
  have hsl : (s.length : Int) ≤ 1048576 := by omega
  have hq : (s.length : Int) / (k : Int) = ((s.length / k : Nat) : Int) := by simp
  have hq0 : s.length / k ≤ s.length := Nat.div_le_self _ _
  have q0 : (0 : Int) ≤ (s.length : Int) / (k : Int) := by rw [hq]; exact Int.natCast_nonneg _
  have q1 : (s.length : Int) / (k : Int) ≤ 1048576 := by omega
  have HQ := Lib.hid hq
  by_cases hn : n < 0
  · rw [if_pos (.inl hn)]
    clear hq
    go_enter Tryd.func49, Tryd.ntmps49
    go_wp2_with fail
    with_reducible refine HN.out.mono ?_
    rintro e w1 ⟨rfl, h1, hk1⟩
    unfold RdAt at h1
    have c0 := h1.cell (i := 0) rfl
    have c1 := h1.cell (i := 1) rfl
    have f1 := h1.free 1
    have hbs := bstr_size s
    have HW := Lib.hid h1
    have HK := Lib.hid hk1
    clear HN h1 hk1
    go_wp2_with fail
    go_ret
    exact ⟨rfl, HW.out.set_ 1 _, HK.out.setCell (p := ⟨br, 1, none⟩) (fun _ => rfl) _⟩
  · by_cases hm : (s.length : Int) / (k : Int) < n
    · rw [if_pos (.inr (by rw [← hq]; exact hm))]
      clear hq
      go_enter Tryd.func49, Tryd.ntmps49
      go_wp2_with fail
      with_reducible refine HN.out.mono ?_
      rintro e w1 ⟨rfl, h1, hk1⟩
      unfold RdAt at h1
      have c0 := h1.cell (i := 0) rfl
      have c1 := h1.cell (i := 1) rfl
      have f1 := h1.free 1
      have hbs := bstr_size s
      have HW := Lib.hid h1
      have HK := Lib.hid hk1
      clear HN h1 hk1
      go_wp2_with fail
      go_ret
      exact ⟨rfl, HW.out.set_ 1 _, HK.out.setCell (p := ⟨br, 1, none⟩) (fun _ => rfl) _⟩
    · rw [if_neg (by rw [← hq]; omega)]
      have HT : Hid (((n.toNat : Nat) : Int) = n) := by show _ = _; omega
      dsimp only
      rw [HT.out]
      clear hq
      go_enter Tryd.func49, Tryd.ntmps49
      go_wp2_with fail
      with_reducible refine HN.out.mono ?_
      rintro e w1 ⟨rfl, h1, hk1⟩
      unfold RdAt at h1
      have c0 := h1.cell (i := 0) rfl
      have c1 := h1.cell (i := 1) rfl
      have hbs := bstr_size s
      have HW := Lib.hid h1
      have HK := Lib.hid hk1
      clear HN h1 hk1
      go_wp2_with fail
      go_ret
      exact ⟨rfl, HW.out, HK.out⟩
theorem textR_len (r : R) : (textR r).2.s.length ≤ r.s.length := by
  have := manyR_len 1 r
  unfold textR
  dsimp only
  rw [List.length_drop]; omega
set_option maxRecDepth 100000 in
set_option maxHeartbeats 4000000 in
theorem rtext_any (W : World) (br : Nat) (r : R) (deep : Int) (h : RdAt W br r deep) (hl : r.s.length ≤ 1048576) :
    Calls Tryd.prog 13 #[.pointer (some ⟨br, 0, none⟩)] W (fun e w' => e = .returned (.string (textR r).1) ∧ RdAt w' br (textR r).2 deep ∧ Keeps (· = br) W w') := by
  have hN := rmany_any W br r deep 1 (by decide) (by decide) h hl
  rw [show ((1 : Nat) : Int) = 1 from rfl] at hN
  have HN := Lib.hid hN
  clear hN
  have hw := manyR_le 1 r
  have hle := manyR_len 1 r
  rw [Nat.div_one] at hw
  have hM : textR r = (⟨((manyR 1 r).2.s.take (manyR 1 r).1).toArray⟩, ⟨(manyR 1 r).2.s.drop (manyR 1 r).1, (manyR 1 r).2.bad⟩) := rfl
  rw [hM]
  generalize manyR 1 r = y at HN hw hle
  obtain ⟨n, s, bad⟩ := y
  dsimp only at HN hw hle ⊢
  clear h hM
  have hbs := bstr_size s
  have k0 : (n : Int) ≤ (s.length : Int) := by omega
  have k1 : (s.length : Int) ≤ 1048576 := by omega
  have k2 : (0 : Int) ≤ (n : Int) := by omega
  go_enter Tryd.func13, Tryd.ntmps13
  go_wp2_with fail
  with_reducible refine HN.out.mono ?_
  rintro e w1 ⟨rfl, h1, hk1⟩
  unfold RdAt at h1
  have c0 := h1.cell (i := 0) rfl
  have f0 := h1.free 0
  have HW := Lib.hid h1
  have HK := Lib.hid hk1
  clear HN h1 hk1
  obtain ⟨q, hq⟩ : ∃ q, (bstr s).extract 0 n = q := ⟨_, rfl⟩
  obtain ⟨w2, hw2⟩ : ∃ w2, Go.Lib.bytesWorld w1 5 q = w2 := ⟨_, rfl⟩
  have hk2 : Keeps (fun _ => False) w1 w2 := by
    rw [← hw2]
    exact ⟨rfl, rfl, rfl, by rw [Go.Lib.bytesWorld_size]; omega, fun i hi _ => Go.Lib.bytesWorld_at_old _ _ _ _ hi⟩
  have hcv := Go.Lib.run_convert_string_bytes (P := Tryd.prog) w1 9 35 5 q Tryd.underlying9 Tryd.underlying35 Tryd.underlying5
  rw [hw2] at hcv
  have hql : q.data.toList.length = q.size := Array.length_toList
  have hback := run_convert_bytes_back (P := Tryd.prog) w2 35 9 5 ⟨w1.heap.size, 0, none⟩ (grownCap w1 q.size 0 5) q.data.toList Tryd.underlying35 Tryd.underlying5 Tryd.underlying9 (fun j hj => by
    rw [← hw2]
    have := Go.Lib.bytesWorld_cell w1 5 q j (by omega)
    rw [Go.WideShapes.add_plain, Nat.zero_add, this, List.getD_eq_getElem?_getD, List.getElem?_eq_getElem hj]; rfl)
  rw [hql] at hback
  have hqq : (⟨q.data.toList.toArray⟩ : ByteArray) = q := by simp
  rw [hqq] at hback
  have z0 := (HW.out.keeps hk2 (fun h => h)).cell (i := 0) rfl
  have g0 := (HW.out.keeps hk2 (fun h => h)).free 0
  have HW2 := Lib.hid (HW.out.keeps hk2 (fun h => h))
  have HK2 := Lib.hid (HK.out.trans hk2 (fun _ _ h => h.elim))
  have HQ : Hid (q = ⟨(s.take n).toArray⟩) := by show _ = _; rw [← hq, bstr_take]; rfl
  have HD : Hid ((bstr s).extract n (bstr s).size = bstr (s.drop n)) := bstr_drop s n
  clear hql hqq hw2 hk2 HW HK
  go_wp2_with fail
  go_ret
  refine ⟨by rw [← HQ.out]; rfl, ?_, HK2.out.setCell (p := ⟨br, 0, none⟩) (fun _ => rfl) _⟩
  rw [show (bstr s).extract n (List.length s) = bstr (s.drop n) from by rw [← HD.out, hbs]]
  exact HW2.out.set_ 0 (.string (bstr (s.drop n)))
end If
end Go.Proofs.YtcbkihplchdhhaaDoor
