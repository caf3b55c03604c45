/- The layout's marker: is, opens, shut, line. -/
import Derived.Test.YtnpgdeioaehahaaDoorLayP
namespace Go.Proofs.YtnpgdeioaehahaaDoor
open Go.RowKit Go.Shelf

def tokV (t : Tok) : Value := .agg #[.int .i64 t.kind, .string t.text, .int .i64 t.n, .int .i64 t.line, .int .i64 t.col]
def tokC (t : Tok) : List Value := [.int .i64 t.kind, .string t.text, .int .i64 t.n, .int .i64 t.line, .int .i64 t.col]
set_option maxHeartbeats 4000000 in
theorem is_any (t : Tok) (k : Int) (s : ByteArray) (W : World) :
    Calls Tryd.prog 57 #[.agg #[.int .i64 t.kind, .string t.text, .int .i64 t.n, .int .i64 t.line, .int .i64 t.col], .int .i64 k, .string s] W (fun e w' => e = .returned (.bool (isP t k s)) ∧ Keeps (fun _ => False) W w') := by
  unfold isP
  by_cases h1 : t.kind = k
  · by_cases h2 : t.text = s
    · have h3 := str_yes h2
      have hr : (decide (t.kind = k) && decide (t.text = s)) = true := by simp [h1, h2]
      have hk : (t.kind == k) = true := by simpa using h1
      rw [hr]
      clear hr h1 h2
      go_enter Tryd.func57, Tryd.ntmps57
      go_wp2_with fail
      go_ret
      exact ⟨rfl, (Keeps.refl _ _).alloc _⟩
    · have h3 := str_no h2
      have hr : (decide (t.kind = k) && decide (t.text = s)) = false := by simp [h1, h2]
      have hk : (t.kind == k) = true := by simpa using h1
      rw [hr]
      clear hr h1 h2
      go_enter Tryd.func57, Tryd.ntmps57
      go_wp2_with fail
      go_ret
      exact ⟨rfl, (Keeps.refl _ _).alloc _⟩
  · have hr : (decide (t.kind = k) && decide (t.text = s)) = false := by simp [h1]
    have hk : (t.kind == k) = false := by simpa using h1
    rw [hr]
    clear hr h1
    go_enter Tryd.func57, Tryd.ntmps57
    go_wp2_with fail
    go_ret
    exact ⟨rfl, (Keeps.refl _ _).alloc _⟩
theorem fld0 (x : Int) (y : ByteArray) (w : World) : (Instr.field 97 (.agg #[.int .i64 x, .string y]) 0).run Tryd.prog w = .ok (.int .i64 x) w := by kernel_rfl
theorem fld1 (x : Int) (y : ByteArray) (w : World) : (Instr.field 97 (.agg #[.int .i64 x, .string y]) 1).run Tryd.prog w = .ok (.string y) w := by kernel_rfl
theorem shutL_stop (t : Tok) {m : Mk} (h : ¬ 0 < (topP m.st).col) : ∀ n, shutL t n m = m
  | 0 => rfl
  | n + 1 => by rw [shutL, if_neg h]
theorem top_ne {m : Mk} {c : Int} (hc : 0 ≤ c) (h : c < (topP m.st).col) : m.st ≠ [] := fun e => by rw [e] at h; have h2 : c < 0 := h; omega
theorem close_len {m : Mk} (t : Tok) (h : m.st ≠ []) : (m.close t).st.length + 1 = m.st.length := by
  obtain ⟨s, c, hs⟩ := snoc_of_ne h
  show m.st.dropLast.length + 1 = _
  rw [hs]; simp
theorem shutL_go (t : Tok) {m : Mk} (h : 0 < (topP m.st).col) : shutL t m.st.length m = shutL t (m.close t).st.length (m.close t) := by
  have h1 := close_len t (top_ne (c := 0) (by omega) h)
  rw [← h1, shutL, if_pos h]
theorem lineL_stop (t : Tok) {m : Mk} (h : ¬ t.col < (topP m.st).col) : ∀ n, lineL t n m = m
  | 0 => rfl
  | n + 1 => by rw [lineL, if_neg h]
theorem lineL_go (t : Tok) (ht : 0 ≤ t.col) {m : Mk} (h : t.col < (topP m.st).col) : lineL t m.st.length m = lineL t (m.close t).st.length (m.close t) := by
  have h1 := close_len t (top_ne ht h)
  rw [← h1, lineL, if_pos h]
/-- How long the marker's rows are together. -/
def phi (m : Mk) : Nat := m.out.length + m.st.length
theorem phi_close {m : Mk} (t : Tok) (h : m.st ≠ []) : phi (m.close t) = phi m := by
  have h1 := close_len t h
  show (m.out ++ [tokAt 7 t]).length + (m.close t).st.length = _
  rw [List.length_append]
  unfold phi
  simp only [List.length_cons, List.length_nil]
  omega
set_option maxRecDepth 100000 in
set_option maxHeartbeats 8000000 in
theorem shut_any (W : World) (B bm : Nat) (sv ov : Value) (m : Mk) (h : MkAt W B bm sv ov m) (hB : B ≤ W.heap.size) (t : Tok) (ht : TokOk t) (hn : phi m ≤ 200000) :
    Calls Tryd.prog 87 #[.pointer (some ⟨bm, 0, none⟩), .agg #[.int .i64 t.kind, .string t.text, .int .i64 t.n, .int .i64 t.line, .int .i64 t.col]] W (fun e w' => e = .returned (.tuple #[]) ∧ MkTo B bm sv ov W (shutP t m) w') := by
  obtain ⟨b3, hb3⟩ : ∃ b3, W.heap.size = b3 := ⟨_, rfl⟩
  obtain ⟨W0, hW0⟩ : ∃ W0, W.alloc (.cells #[.int .i64 t.kind, .string t.text, .int .i64 t.n, .int .i64 t.line, .int .i64 t.col] 28) = W0 := ⟨_, rfl⟩
  have hk0 : Keeps (fun _ => False) W W0 := by rw [← hW0]; exact (Keeps.refl _ _).alloc _
  have hB3 : Blk W0 b3 28 [.int .i64 t.kind, .string t.text, .int .i64 t.n, .int .i64 t.line, .int .i64 t.col] := by rw [← hW0, ← hb3]; exact Blk.new W _ [_, _, _, _, _]
  have hs0 := hk0.size
  have h0 := Lib.hid (h.same hk0)
  have hno : Hid (∀ i, Own3 bm sv ov i → i ≠ b3) := fun i hi e => by have := h.lt i hi; omega
  have HK0 := Lib.hid hk0
  have HB3 := Lib.hid hB3
  have HW0 := Lib.hid hW0
  have HBn := Lib.hid hb3
  have HT := Lib.hid ht
  have HBB : Hid (B ≤ W0.heap.size) := by show _ ≤ _; omega
  have hph := Lib.hid hn
  obtain ⟨R, hR⟩ : ∃ R, shutP t m = R := ⟨_, rfl⟩
  rw [hR]
  have HR := Lib.hid hR
  clear h hk0 hB3 hW0 hb3 ht hs0 hn hB hR
  go_enter Tryd.func87, Tryd.ntmps87
  go_upto_region 1 with (fail)
  rw [HW0.out, HBn.out]
  go_loopg [] m.st.length (fun gk wr => ∃ m', MkTo B bm sv ov W0 m' wr ∧ m'.st.length ≤ gk ∧ Hid (shutL t m'.st.length m' = R) ∧ Hid (phi m' ≤ 200000))
  case atStart => exact ⟨m, MkTo.same h0.out (Keeps.refl _ _), Nat.le_refl _, HR.out, hph.out⟩
  case round =>
    obtain ⟨m', ⟨sv1, ov1, hM, hk, hn⟩, hlen, hRes, hphi⟩ := hrel
    obtain ⟨wx, hwx⟩ : ∃ wx, wx = wr := ⟨_, rfl⟩
    rw [← hwx] at hM hk ⊢
    clear hwx
    have HM := Lib.hid hM
    have HKw := Lib.hid hk
    have HN := Lib.hid hn
    have HTop := Lib.hid (top_any wx B bm sv1 ov1 m' hM)
    have hBx : Hid (B ≤ wx.heap.size) := by have h1 := hk.size; have h2 := HBB.out; show _ ≤ _; omega
    obtain ⟨c, hc⟩ : ∃ c, topP m'.st = c := ⟨_, rfl⟩
    have hf0 := fld0 c.col c.op
    rw [hc] at HTop
    have HC := Lib.hid hc
    have hbx := HB3.out.keeps hk (fun e => hno.out b3 e rfl)
    have HBx := Lib.hid hbx
    clear hM hk hn hc hbx
    by_cases hcol : 0 < c.col
    · have hne : m'.st ≠ [] := top_ne (c := 0) (by omega) (by rw [HC.out]; exact hcol)
      have HNe := Lib.hid hne
      have hcl := close_len t hne
      go_wp2_with fail
      with_reducible refine HTop.out.mono ?_
      rintro e w1 ⟨rfl, hk1⟩
      have hb1 := HBx.out.keeps hk1 (fun h => h)
      have x0 := hb1.cell (i := 0) rfl
      have x1 := hb1.cell (i := 1) rfl
      have x2 := hb1.cell (i := 2) rfl
      have x3 := hb1.cell (i := 3) rfl
      have x4 := hb1.cell (i := 4) rfl
      have HPut := Lib.hid (lput_any w1 B bm sv1 ov1 m' (HM.out.same hk1) (by have := hk1.size; have := hBx.out; omega) 7 t (by decide) HT.out (by have h1 : m'.out.length + m'.st.length ≤ 200000 := hphi.out; omega))
      have HK1 := Lib.hid hk1
      clear hk1 hb1 HTop
      go_wp2_with fail
      clear x0 x1 x2 x3 x4
      with_reducible refine HPut.out.mono ?_
      rintro e w2 ⟨rfl, hT2⟩
      obtain ⟨sv2, ov2, hM2, hk2, hn2⟩ := hT2
      have HPop := Lib.hid (pop_any w2 B bm sv2 ov2 (m'.put 7 t) hM2 HNe.out)
      have HK2 := Lib.hid hk2
      have HN2 := Lib.hid hn2
      clear hM2 hk2 hn2 HPut
      go_wp2_with fail
      with_reducible refine HPop.out.mono ?_
      rintro e w3 ⟨rfl, hT3⟩
      have HT3 : Hid (MkTo B bm sv ov W0 (m'.close t) w3) := MkTo.trans HKw.out HN.out (MkTo.trans (HK1.out.mono (fun _ _ h => h.elim)) (fun i hi => .inl hi) (MkTo.trans HK2.out HN2.out hT3))
      clear hT3
      go_wp2_with fail
      go_roundg (gk - 1)
      case measure => omega
      case rel => exact ⟨m'.close t, HT3.out, by omega, (shutL_go t (by rw [HC.out]; exact hcol)).symm.trans hRes.out, by show phi _ ≤ _; rw [phi_close t HNe.out]; exact hphi.out⟩
    · have hcol2 := Lib.hid hcol
      go_wp2_with fail
      with_reducible refine HTop.out.mono ?_
      rintro e w1 ⟨rfl, hk1⟩
      have hres : m' = R := (shutL_stop t (by rw [HC.out]; have := hcol2.out; omega) _).symm.trans hRes.out
      have HF : Hid (MkTo B bm sv ov W R w1) := by
        rw [← hres]
        exact MkTo.trans (HK0.out.mono (fun _ _ h => h.elim)) (fun i hi => .inl hi) (MkTo.trans HKw.out HN.out (MkTo.same HM.out hk1))
      clear hk1 hres
      go_wp2_with fail
      go_end0
      exact ⟨rfl, HF.out⟩
set_option maxRecDepth 100000 in
set_option maxHeartbeats 8000000 in
theorem line_any (W : World) (B bm : Nat) (sv ov : Value) (m : Mk) (h : MkAt W B bm sv ov m) (hB : B ≤ W.heap.size) (t : Tok) (ht : TokOk t) (htc : 1 ≤ t.col) (hn : phi m ≤ 199999) :
    Calls Tryd.prog 60 #[.pointer (some ⟨bm, 0, none⟩), .agg #[.int .i64 t.kind, .string t.text, .int .i64 t.n, .int .i64 t.line, .int .i64 t.col]] W (fun e w' => e = .returned (.tuple #[]) ∧ MkTo B bm sv ov W (lineP t m) w') := by
  obtain ⟨b3, hb3⟩ : ∃ b3, W.heap.size = b3 := ⟨_, rfl⟩
  obtain ⟨W0, hW0⟩ : ∃ W0, W.alloc (.cells #[.int .i64 t.kind, .string t.text, .int .i64 t.n, .int .i64 t.line, .int .i64 t.col] 28) = W0 := ⟨_, rfl⟩
  have hk0 : Keeps (fun _ => False) W W0 := by rw [← hW0]; exact (Keeps.refl _ _).alloc _
  have hB3 : Blk W0 b3 28 [.int .i64 t.kind, .string t.text, .int .i64 t.n, .int .i64 t.line, .int .i64 t.col] := by rw [← hW0, ← hb3]; exact Blk.new W _ [_, _, _, _, _]
  have hs0 := hk0.size
  have h0 := Lib.hid (h.same hk0)
  have hno : Hid (∀ i, Own3 bm sv ov i → i ≠ b3) := fun i hi e => by have := h.lt i hi; omega
  have HK0 := Lib.hid hk0
  have HB3 := Lib.hid hB3
  have HW0 := Lib.hid hW0
  have HBn := Lib.hid hb3
  have HT := Lib.hid ht
  have HTc := Lib.hid htc
  have HBB : Hid (B ≤ W0.heap.size) := by show _ ≤ _; omega
  have hph := Lib.hid hn
  obtain ⟨R, hR⟩ : ∃ R, lineL t m.st.length m = R := ⟨_, rfl⟩
  have HR := Lib.hid hR
  clear h hk0 hB3 hW0 hb3 ht hs0 hn hB hR htc
  go_enter Tryd.func60, Tryd.ntmps60
  go_upto_region 1 with (fail)
  rw [HW0.out, HBn.out]
  go_loopg [] m.st.length (fun gk wr => ∃ m', MkTo B bm sv ov W0 m' wr ∧ m'.st.length ≤ gk ∧ Hid (lineL t m'.st.length m' = R) ∧ Hid (phi m' ≤ 199999))
  case atStart => exact ⟨m, MkTo.same h0.out (Keeps.refl _ _), Nat.le_refl _, HR.out, hph.out⟩
  case round =>
    obtain ⟨m', ⟨sv1, ov1, hM, hk, hn⟩, hlen, hRes, hphi⟩ := hrel
    obtain ⟨wx, hwx⟩ : ∃ wx, wx = wr := ⟨_, rfl⟩
    rw [← hwx] at hM hk ⊢
    clear hwx
    have HM := Lib.hid hM
    have HKw := Lib.hid hk
    have HN := Lib.hid hn
    have hBx : Hid (B ≤ wx.heap.size) := by have h1 := hk.size; have h2 := HBB.out; show _ ≤ _; omega
    obtain ⟨c, hc⟩ : ∃ c, topP m'.st = c := ⟨_, rfl⟩
    have HTop : Hid (∀ X, Keeps (fun _ => False) wx X → Calls Tryd.prog 62 #[.pointer (some ⟨bm, 0, none⟩)] X (fun e w' => e = .returned (.agg #[.int .i64 c.col, .string c.op]) ∧ Keeps (fun _ => False) X w')) := fun X hkX => by
      rw [← hc]; exact top_any X B bm sv1 ov1 m' (hM.same hkX)
    have hf0 := fld0 c.col c.op
    have HC := Lib.hid hc
    have hbx := HB3.out.keeps hk (fun e => hno.out b3 e rfl)
    have HBx := Lib.hid hbx
    have hQ : Hid (∀ X, Keeps (fun _ => False) wx X → (X.cell? ⟨b3, 4, none⟩ = some (.int .i64 t.col))) := fun X hkX => (hbx.keeps hkX (fun h => h)).cell (i := 4) rfl
    clear hM hk hn hc hbx
    by_cases hcol : t.col < c.col
    · have hne : m'.st ≠ [] := top_ne (c := t.col) (by have := HTc.out; omega) (by rw [HC.out]; exact hcol)
      have HNe := Lib.hid hne
      have hcl := close_len t hne
      have HCol := Lib.hid hcol
      go_upto_region 1 with (fail)
      go_region_held3 (fun X => X.cell? ⟨b3, 4, none⟩ = some (.int .i64 t.col))
        (exact hQ.out _ (by repeat (first | (with_reducible assumption) | (with_reducible exact Keeps.refl _ _) | (with_reducible refine Keeps.drewN ?_ _) | (with_reducible refine Keeps.drew ?_) | with_reducible refine Keeps.setCell ?_ (by first | (intro _; exact rfl) | (intro _; exact Or.inl rfl) | (intro _; exact Or.inr rfl) | (simp; done) | (simp; omega)) _ | (with_reducible refine Keeps.alloc ?_ _))))
        ((go_at_call 62; with_reducible refine (HTop.out _ (by repeat (first | (with_reducible assumption) | (with_reducible exact Keeps.refl _ _) | (with_reducible refine Keeps.drewN ?_ _) | (with_reducible refine Keeps.drew ?_) | with_reducible refine Keeps.setCell ?_ (by first | (intro _; exact rfl) | (intro _; exact Or.inl rfl) | (intro _; exact Or.inr rfl) | (simp; done) | (simp; omega)) _ | (with_reducible refine Keeps.alloc ?_ _)))).mono ?_; rintro e w1 ⟨rfl, hk1⟩; have hkQ := Keeps.trans (show Keeps (fun _ => False) wx _ from (by repeat (first | (with_reducible assumption) | (with_reducible exact Keeps.refl _ _) | (with_reducible refine Keeps.drewN ?_ _) | (with_reducible refine Keeps.drew ?_) | with_reducible refine Keeps.setCell ?_ (by first | (intro _; exact rfl) | (intro _; exact Or.inl rfl) | (intro _; exact Or.inr rfl) | (simp; done) | (simp; omega)) _ | (with_reducible refine Keeps.alloc ?_ _)))) hk1 (fun _ _ h => h)))
      have hb1 := HBx.out.keeps hkQ (fun h => h)
      have x0 := hb1.cell (i := 0) rfl
      have x1 := hb1.cell (i := 1) rfl
      have x2 := hb1.cell (i := 2) rfl
      have x3 := hb1.cell (i := 3) rfl
      have x4 := hb1.cell (i := 4) rfl
      have HPut := Lib.hid (lput_any w1 B bm sv1 ov1 m' (HM.out.same hkQ) (by have := hkQ.size; have := hBx.out; omega) 7 t (by decide) HT.out (by have h1 : m'.out.length + m'.st.length ≤ 199999 := hphi.out; omega))
      have HK1 := Lib.hid hkQ
      clear hk1 hkQ hb1 HTop hQ
      go_wp2_with fail
      clear x0 x1 x2 x3 x4
      with_reducible refine HPut.out.mono ?_
      rintro e w2 ⟨rfl, hT2⟩
      obtain ⟨sv2, ov2, hM2, hk2, hn2⟩ := hT2
      have HPop := Lib.hid (pop_any w2 B bm sv2 ov2 (m'.put 7 t) hM2 HNe.out)
      have HK2 := Lib.hid hk2
      have HN2 := Lib.hid hn2
      clear hM2 hk2 hn2 HPut
      go_wp2_with fail
      with_reducible refine HPop.out.mono ?_
      rintro e w3 ⟨rfl, hT3⟩
      have HT3 : Hid (MkTo B bm sv ov W0 (m'.close t) w3) := MkTo.trans HKw.out HN.out (MkTo.trans (HK1.out.mono (fun _ _ h => h.elim)) (fun i hi => .inl hi) (MkTo.trans HK2.out HN2.out hT3))
      clear hT3
      go_wp2_with fail
      go_roundg (gk - 1)
      case measure => omega
      case rel => exact ⟨m'.close t, HT3.out, by omega, (lineL_go t (by have := HTc.out; omega) (by rw [HC.out]; exact HCol.out)).symm.trans hRes.out, by show phi _ ≤ _; rw [phi_close t HNe.out]; exact hphi.out⟩
    · have HCol : Hid (¬ t.col < c.col) := hcol
      have hres : m' = R := (lineL_stop t (by rw [HC.out]; exact hcol) _).symm.trans hRes.out
      subst hres
      have HF : Hid (∀ R' w1, MkTo B bm sv1 ov1 wx R' w1 → MkTo B bm sv ov W R' w1) := fun R' w1 hR => MkTo.trans (HK0.out.mono (fun _ _ h => h.elim)) (fun i hi => .inl hi) (MkTo.trans HKw.out HN.out hR)
      go_upto_region 1 with (fail)
      go_region_held3 (fun X => X.cell? ⟨b3, 4, none⟩ = some (.int .i64 t.col))
        (exact hQ.out _ (by repeat (first | (with_reducible assumption) | (with_reducible exact Keeps.refl _ _) | (with_reducible refine Keeps.drewN ?_ _) | (with_reducible refine Keeps.drew ?_) | with_reducible refine Keeps.setCell ?_ (by first | (intro _; exact rfl) | (intro _; exact Or.inl rfl) | (intro _; exact Or.inr rfl) | (simp; done) | (simp; omega)) _ | (with_reducible refine Keeps.alloc ?_ _))))
        ((go_at_call 62; with_reducible refine (HTop.out _ (by repeat (first | (with_reducible assumption) | (with_reducible exact Keeps.refl _ _) | (with_reducible refine Keeps.drewN ?_ _) | (with_reducible refine Keeps.drew ?_) | with_reducible refine Keeps.setCell ?_ (by first | (intro _; exact rfl) | (intro _; exact Or.inl rfl) | (intro _; exact Or.inr rfl) | (simp; done) | (simp; omega)) _ | (with_reducible refine Keeps.alloc ?_ _)))).mono ?_; rintro e w1 ⟨rfl, hk1⟩; have hkQ := Keeps.trans (show Keeps (fun _ => False) wx _ from (by repeat (first | (with_reducible assumption) | (with_reducible exact Keeps.refl _ _) | (with_reducible refine Keeps.drewN ?_ _) | (with_reducible refine Keeps.drew ?_) | with_reducible refine Keeps.setCell ?_ (by first | (intro _; exact rfl) | (intro _; exact Or.inl rfl) | (intro _; exact Or.inr rfl) | (simp; done) | (simp; omega)) _ | (with_reducible refine Keeps.alloc ?_ _)))) hk1 (fun _ _ h => h)))
      go_upto_region 4 with (fail)
      obtain ⟨wz, hwz⟩ : ∃ wz, wz = w1 := ⟨_, rfl⟩
      rw [← hwz] at hkQ ⊢
      clear hwz hk1
      have HK1 := Lib.hid hkQ
      clear hkQ
      have HTop2 : Hid (∀ X, Keeps (fun _ => False) wz X → Calls Tryd.prog 62 #[.pointer (some ⟨bm, 0, none⟩)] X (fun e w' => e = .returned (.agg #[.int .i64 c.col, .string c.op]) ∧ Keeps (fun _ => False) X w')) := fun X hkX => HTop.out X (HK1.out.trans hkX (fun _ _ h => h))
      have hQ2 : Hid (∀ X, Keeps (fun _ => False) wz X → (X.cell? ⟨b3, 4, none⟩ = some (.int .i64 t.col))) := fun X hkX => hQ.out X (HK1.out.trans hkX (fun _ _ h => h))
      by_cases heq : c.col = t.col
      · have hbeq : (c.col == t.col) = true := by simpa using heq
        have HEq := Lib.hid heq
        clear heq
        go_region_held3 (fun X => X.cell? ⟨b3, 4, none⟩ = some (.int .i64 t.col))
          (exact hQ2.out _ (by repeat (first | (with_reducible assumption) | (with_reducible exact Keeps.refl _ _) | (with_reducible refine Keeps.drewN ?_ _) | (with_reducible refine Keeps.drew ?_) | with_reducible refine Keeps.setCell ?_ (by first | (intro _; exact rfl) | (intro _; exact Or.inl rfl) | (intro _; exact Or.inr rfl) | (simp; done) | (simp; omega)) _ | (with_reducible refine Keeps.alloc ?_ _))))
          ((go_at_call 62; with_reducible refine (HTop2.out _ (by repeat (first | (with_reducible assumption) | (with_reducible exact Keeps.refl _ _) | (with_reducible refine Keeps.drewN ?_ _) | (with_reducible refine Keeps.drew ?_) | with_reducible refine Keeps.setCell ?_ (by first | (intro _; exact rfl) | (intro _; exact Or.inl rfl) | (intro _; exact Or.inr rfl) | (simp; done) | (simp; omega)) _ | (with_reducible refine Keeps.alloc ?_ _)))).mono ?_; rintro e w2 ⟨rfl, hk2⟩; have hkP := Keeps.trans (show Keeps (fun _ => False) wz _ from (by repeat (first | (with_reducible assumption) | (with_reducible exact Keeps.refl _ _) | (with_reducible refine Keeps.drewN ?_ _) | (with_reducible refine Keeps.drew ?_) | with_reducible refine Keeps.setCell ?_ (by first | (intro _; exact rfl) | (intro _; exact Or.inl rfl) | (intro _; exact Or.inr rfl) | (simp; done) | (simp; omega)) _ | (with_reducible refine Keeps.alloc ?_ _)))) hk2 (fun _ _ h => h)))
        have hb1 := HBx.out.keeps (HK1.out.trans hkP (fun _ _ h => h)) (fun h => h)
        have x0 := hb1.cell (i := 0) rfl
        have x1 := hb1.cell (i := 1) rfl
        have x2 := hb1.cell (i := 2) rfl
        have x3 := hb1.cell (i := 3) rfl
        have x4 := hb1.cell (i := 4) rfl
        have HPut := Lib.hid (lput_any w2 B bm sv1 ov1 m' (HM.out.same (HK1.out.trans hkP (fun _ _ h => h))) (by have := hkP.size; have := HK1.out.size; have := hBx.out; omega) 8 t (by decide) HT.out (by have h1 : m'.out.length + m'.st.length ≤ 199999 := hphi.out; omega))
        have HK2 := Lib.hid (HK1.out.trans hkP (fun _ _ h => h))
        have hfin : lineP t m = m'.put 8 t := by
          unfold lineP
          dsimp only
          rw [HR.out, HC.out, if_pos HEq.out]
        have HFin := Lib.hid hfin
        clear hk2 hkP hb1 HTop hQ HTop2 hQ2 hfin
        go_wp2_with fail
        clear x0 x1 x2 x3 x4
        with_reducible refine HPut.out.mono ?_
        rintro e w3 ⟨rfl, hT2⟩
        have HF3 := Lib.hid (HF.out _ _ (MkTo.trans (HK2.out.mono (fun _ _ h => h.elim)) (fun i hi => .inl hi) hT2))
        clear hT2
        go_wp2_with fail
        go_end0
        rw [HFin.out]
        exact ⟨rfl, HF3.out⟩
      · have hbeq : (c.col == t.col) = false := by simpa using heq
        have HEq : Hid (¬ c.col = t.col) := heq
        clear heq
        go_region_held3 (fun X => X.cell? ⟨b3, 4, none⟩ = some (.int .i64 t.col))
          (exact hQ2.out _ (by repeat (first | (with_reducible assumption) | (with_reducible exact Keeps.refl _ _) | (with_reducible refine Keeps.drewN ?_ _) | (with_reducible refine Keeps.drew ?_) | with_reducible refine Keeps.setCell ?_ (by first | (intro _; exact rfl) | (intro _; exact Or.inl rfl) | (intro _; exact Or.inr rfl) | (simp; done) | (simp; omega)) _ | (with_reducible refine Keeps.alloc ?_ _))))
          ((go_at_call 62; with_reducible refine (HTop2.out _ (by repeat (first | (with_reducible assumption) | (with_reducible exact Keeps.refl _ _) | (with_reducible refine Keeps.drewN ?_ _) | (with_reducible refine Keeps.drew ?_) | with_reducible refine Keeps.setCell ?_ (by first | (intro _; exact rfl) | (intro _; exact Or.inl rfl) | (intro _; exact Or.inr rfl) | (simp; done) | (simp; omega)) _ | (with_reducible refine Keeps.alloc ?_ _)))).mono ?_; rintro e w2 ⟨rfl, hk2⟩; have hkP := Keeps.trans (show Keeps (fun _ => False) wz _ from (by repeat (first | (with_reducible assumption) | (with_reducible exact Keeps.refl _ _) | (with_reducible refine Keeps.drewN ?_ _) | (with_reducible refine Keeps.drew ?_) | with_reducible refine Keeps.setCell ?_ (by first | (intro _; exact rfl) | (intro _; exact Or.inl rfl) | (intro _; exact Or.inr rfl) | (simp; done) | (simp; omega)) _ | (with_reducible refine Keeps.alloc ?_ _)))) hk2 (fun _ _ h => h)))
        have hfin : lineP t m = m' := by
          unfold lineP
          dsimp only
          rw [HR.out, HC.out, if_neg HEq.out]
        have HFin := Lib.hid hfin
        have HF3 := Lib.hid (HF.out _ _ (MkTo.same HM.out (HK1.out.trans hkP (fun _ _ h => h))))
        clear hk2 hkP HTop hQ HTop2 hQ2 hfin
        go_wp2_with fail
        go_end0
        rw [HFin.out]
        exact ⟨rfl, HF3.out⟩
end Go.Proofs.YtnpgdeioaehahaaDoor
