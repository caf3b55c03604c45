/- scope.Sorted's comparison, slices.SortStableFunc under it, slices.Compact at api.Diag. No conditions but bounds. -/
import Derived.Test.YtjofndhbpglfgaaScSl
import Derived.Test.YtjofndhbpglfgaaStabGDg
import Derived.Lib.SliceRun
namespace Go.Proofs.Ytjofndhbpglfgaa
open Go.RowKit Go.Shelf Go.Sort Stab

/-! ### Comparing -/
def cmpI (a b : Int) : Int := if a < b then -1 else if b < a then 1 else 0
def orI (a b c : Int) : Int := if a ≠ 0 then a else if b ≠ 0 then b else c
def vI : Value → Int
  | .int _ n => n
  | _ => 0
def cfDg (x y : V4) : Int := orI (cmpI (vI x.e1) (vI y.e1)) (cmpI (vI x.e2) (vI y.e2)) (cmpI (vI x.e0) (vI y.e0))
def lexB (a b c a' b' c' : Int) : Prop := a < a' ∨ (a = a' ∧ (b < b' ∨ (b = b' ∧ c < c')))
theorem cmpI_neg {a b : Int} : cmpI a b < 0 ↔ a < b := by unfold cmpI; split <;> (try split) <;> omega
theorem cmpI_zero {a b : Int} : cmpI a b = 0 ↔ a = b := by unfold cmpI; split <;> (try split) <;> omega
theorem orI_neg {a b c a' b' c' : Int} : orI (cmpI a a') (cmpI b b') (cmpI c c') < 0 ↔ lexB a b c a' b' c' := by
  unfold orI lexB
  have h1 := @cmpI_zero a a'
  have h2 := @cmpI_zero b b'
  have g1 := @cmpI_neg a a'
  have g2 := @cmpI_neg b b'
  have g3 := @cmpI_neg c c'
  split
  · rename_i h
    rw [g1]
    have : a ≠ a' := fun e => h (h1.2 e)
    omega
  · rename_i h
    have e1 : a = a' := h1.1 (Decidable.not_not.1 h)
    split
    · rename_i h'
      rw [g2]
      have : b ≠ b' := fun e => h' (h2.2 e)
      omega
    · rename_i h'
      have e2 : b = b' := h2.1 (Decidable.not_not.1 h')
      rw [g3]
      omega
theorem lt_iff (x y : V4) : ltOf cfDg x y = true ↔ lexB (vI x.e1) (vI x.e2) (vI x.e0) (vI y.e1) (vI y.e2) (vI y.e0) := by
  unfold ltOf cfDg
  rw [decide_eq_true_eq, orI_neg]
theorem weakDg : Weak (ltOf cfDg) := by
  refine ⟨fun a b c => ?_, fun a b c => ?_, fun a => ?_⟩
  · rw [lt_iff, lt_iff, lt_iff]
    unfold lexB
    omega
  · simp only [← Bool.not_eq_true, lt_iff]
    unfold lexB
    omega
  · rw [← Bool.not_eq_true, lt_iff]
    unfold lexB
    omega
set_option maxHeartbeats 400000 in
theorem isNaNInt (a : Int) (W : World) : Calls Try.prog 16 #[.int .i64 a] W fun e w' => e = .returned (.bool false) ∧ w' = W := by
  have h : ((a : Int) != a) = false := by simp
  go_enter Try.func16, Try.ntmps16
  go_wp2
  go_ret
  exact ⟨rfl, rfl⟩
set_option maxHeartbeats 400000 in
theorem isNaNErr (a : Int) (W : World) : Calls Try.prog 17 #[.int .i64 a] W fun e w' => e = .returned (.bool false) ∧ w' = W := by
  have h : ((a : Int) != a) = false := by simp
  go_enter Try.func17, Try.ntmps17
  go_wp2
  go_ret
  exact ⟨rfl, rfl⟩
set_option maxHeartbeats 1000000 in
theorem cmpInt (a b : Int) (W : World) : Calls Try.prog 11 #[.int .i64 a, .int .i64 b] W fun e w' => e = .returned (.int .i64 (cmpI a b)) ∧ w' = W := by
  rcases Int.lt_trichotomy a b with h | h | h
  · have HE : Hid (cmpI a b = -1) := by show _ = _; unfold cmpI; rw [if_pos h]
    go_enter Try.func11, Try.ntmps11
    go_wp2_with ((go_at_call 16; with_reducible refine (isNaNInt _ _).mono ?_); rintro e w1 ⟨rfl, rfl⟩)
    go_ret
    exact ⟨ret_int HE.out.symm, rfl⟩
  · subst h
    have HE : Hid (cmpI a a = 0) := by show _ = _; unfold cmpI; rw [if_neg (by omega), if_neg (by omega)]
    go_enter Try.func11, Try.ntmps11
    go_wp2_with ((go_at_call 16; with_reducible refine (isNaNInt _ _).mono ?_); rintro e w1 ⟨rfl, rfl⟩)
    go_ret
    exact ⟨ret_int HE.out.symm, rfl⟩
  · have HE : Hid (cmpI a b = 1) := by show _ = _; unfold cmpI; rw [if_neg (by omega), if_pos h]
    have h' : ¬ a < b := by omega
    go_enter Try.func11, Try.ntmps11
    go_wp2_with ((go_at_call 16; with_reducible refine (isNaNInt _ _).mono ?_); rintro e w1 ⟨rfl, rfl⟩)
    go_ret
    exact ⟨ret_int HE.out.symm, rfl⟩
set_option maxHeartbeats 1000000 in
theorem cmpErr (a b : Int) (W : World) : Calls Try.prog 12 #[.int .i64 a, .int .i64 b] W fun e w' => e = .returned (.int .i64 (cmpI a b)) ∧ w' = W := by
  rcases Int.lt_trichotomy a b with h | h | h
  · have HE : Hid (cmpI a b = -1) := by show _ = _; unfold cmpI; rw [if_pos h]
    go_enter Try.func12, Try.ntmps12
    go_wp2_with ((go_at_call 17; with_reducible refine (isNaNErr _ _).mono ?_); rintro e w1 ⟨rfl, rfl⟩)
    go_ret
    exact ⟨ret_int HE.out.symm, rfl⟩
  · subst h
    have HE : Hid (cmpI a a = 0) := by show _ = _; unfold cmpI; rw [if_neg (by omega), if_neg (by omega)]
    go_enter Try.func12, Try.ntmps12
    go_wp2_with ((go_at_call 17; with_reducible refine (isNaNErr _ _).mono ?_); rintro e w1 ⟨rfl, rfl⟩)
    go_ret
    exact ⟨ret_int HE.out.symm, rfl⟩
  · have HE : Hid (cmpI a b = 1) := by show _ = _; unfold cmpI; rw [if_neg (by omega), if_pos h]
    have h' : ¬ a < b := by omega
    go_enter Try.func12, Try.ntmps12
    go_wp2_with ((go_at_call 17; with_reducible refine (isNaNErr _ _).mono ?_); rintro e w1 ⟨rfl, rfl⟩)
    go_ret
    exact ⟨ret_int HE.out.symm, rfl⟩
set_option maxHeartbeats 1000000 in
theorem or3 (a b c : Int) (g : Nat) (W : World) (hb : Blk W g 3 [.int .i64 a, .int .i64 b, .int .i64 c]) :
    Calls Try.prog 10 #[.slice (some ⟨g, 0, none⟩) 3 3] W fun e w' => e = .returned (.int .i64 (orI a b c)) ∧ w' = W := by
  have c0 := hb.cell (i := 0) rfl
  have c1 := hb.cell (i := 1) rfl
  have c2 := hb.cell (i := 2) rfl
  clear hb
  have HE : Hid (orI a b c = if a ≠ 0 then a else if b ≠ 0 then b else c) := rfl
  go_enter Try.func10, Try.ntmps10
  go_wp2
  go_loopw [8] (fun i wr => wr = W ∧ (i = .int .i64 0 ∨ (i = .int .i64 1 ∧ Hid (a = 0)) ∨ (i = .int .i64 2 ∧ Hid (a = 0) ∧ Hid (b = 0)) ∨ (i = .int .i64 3 ∧ Hid (a = 0) ∧ Hid (b = 0) ∧ Hid (c = 0)))) (fun i _ => 3 - (intOf i).toNat)
  case atStart => exact ⟨rfl, .inl rfl⟩
  case round =>
    obtain ⟨rfl, rfl | ⟨rfl, ha⟩ | ⟨rfl, ha, hb⟩ | ⟨rfl, ha, hb, hc⟩⟩ := hrel
    · by_cases h0 : a = 0
      · have hd : ((a : Int) != 0) = false := by rw [h0]; rfl
        have HA := Lib.hid h0
        clear h0
        go_wp2
        go_roundw
        case rel => exact ⟨trivial, .inr (.inl ⟨rfl, HA⟩)⟩
        case measure => simp [intOf]
      · have hd : ((a : Int) != 0) = true := by rw [bne_iff_ne]; exact h0
        go_wp2
        go_ret
        exact ⟨ret_int (by rw [HE.out, if_pos h0]), rfl⟩
    · by_cases h0 : b = 0
      · have hd : ((b : Int) != 0) = false := by rw [h0]; rfl
        have HB := Lib.hid h0
        clear h0
        go_wp2
        go_roundw
        case rel => exact ⟨trivial, .inr (.inr (.inl ⟨rfl, ha, HB⟩))⟩
        case measure => simp [intOf]
      · have hd : ((b : Int) != 0) = true := by rw [bne_iff_ne]; exact h0
        go_wp2
        go_ret
        exact ⟨ret_int (by rw [HE.out, if_neg (by simp [ha.out]), if_pos h0]), rfl⟩
    · by_cases h0 : c = 0
      · have hd : ((c : Int) != 0) = false := by rw [h0]; rfl
        have HC := Lib.hid h0
        clear h0
        go_wp2
        go_roundw
        case rel => exact ⟨trivial, .inr (.inr (.inr ⟨rfl, ha, hb, HC⟩))⟩
        case measure => simp [intOf]
      · have hd : ((c : Int) != 0) = true := by rw [bne_iff_ne]; exact h0
        go_wp2
        go_ret
        exact ⟨ret_int (by rw [HE.out, if_neg (by simp [ha.out]), if_neg (by simp [hb.out])]), rfl⟩
    · go_wp2
      go_ret
      exact ⟨ret_int (by rw [HE.out, if_neg (by simp [ha.out]), if_neg (by simp [hb.out]), hc.out]), rfl⟩
set_option maxHeartbeats 4000000 in
theorem cmpDg (x y : V4) (W : World) (hx : FmDg x) (hy : FmDg y) : Calls Try.prog 9 #[x.agg, y.agg] W fun e w' => e = .returned (.int .i64 (cfDg x y)) ∧ Below W.heap.size W w' := by
  obtain ⟨xa, xb, xc, xd, rfl⟩ := hx
  obtain ⟨ya, yb, yc, yd, rfl⟩ := hy
  have HE : Hid (cfDg ⟨.int .i64 xa, .int .i64 xb, .int .i64 xc, .string xd⟩ ⟨.int .i64 ya, .int .i64 yb, .int .i64 yc, .string yd⟩ = orI (cmpI xb yb) (cmpI xc yc) (cmpI xa ya)) := rfl
  unfold V4.agg
  dsimp only
  go_enter Try.func9, Try.ntmps9
  go_wp2_with fail
  obtain ⟨W0, hW0⟩ : ∃ W0, (W.alloc (.cells #[.int .i64 xa, .int .i64 xb, .int .i64 xc, .string xd] 25)).alloc (.cells #[.int .i64 ya, .int .i64 yb, .int .i64 yc, .string yd] 25) = W0 := ⟨_, rfl⟩
  have hx := (Blk.new W 25 [.int .i64 xa, .int .i64 xb, .int .i64 xc, .string xd]).alloc (.cells #[.int .i64 ya, .int .i64 yb, .int .i64 yc, .string yd] 25)
  have hy := Blk.new (W.alloc (.cells #[.int .i64 xa, .int .i64 xb, .int .i64 xc, .string xd] 25)) 25 [.int .i64 ya, .int .i64 yb, .int .i64 yc, .string yd]
  have hB0 : Below W.heap.size W W0 := by rw [← hW0]; exact ((Below.refl _ _).alloc (Nat.le_refl _) _).alloc (by simp) _
  rw [hW0] at hx hy ⊢
  rw [World.size_alloc] at hy
  obtain ⟨b0, hb0⟩ : ∃ b0, W.heap.size = b0 := ⟨_, rfl⟩
  rw [hb0] at hx hy
  simp only [hb0]
  have x0 := hx.cell (i := 0) rfl
  have x1 := hx.cell (i := 1) rfl
  have x2 := hx.cell (i := 2) rfl
  have y0 := hy.cell (i := 0) rfl
  have y1 := hy.cell (i := 1) rfl
  have y2 := hy.cell (i := 2) rfl
  have HB0 := Lib.hid hB0
  have HQ : Hid (∀ X, Below W0.heap.size W0 X → (X.cell? ⟨b0, 0, none⟩ = some (.int .i64 xa) ∧ X.cell? ⟨b0, 1, none⟩ = some (.int .i64 xb) ∧ X.cell? ⟨b0, 2, none⟩ = some (.int .i64 xc) ∧ X.cell? ⟨b0 + 1, 0, none⟩ = some (.int .i64 ya) ∧ X.cell? ⟨b0 + 1, 1, none⟩ = some (.int .i64 yb) ∧ X.cell? ⟨b0 + 1, 2, none⟩ = some (.int .i64 yc))) := fun X hb =>
    ⟨(hb.cell (block_lt_of_cell x0)).trans x0, (hb.cell (block_lt_of_cell x1)).trans x1, (hb.cell (block_lt_of_cell x2)).trans x2, (hb.cell (block_lt_of_cell y0)).trans y0, (hb.cell (block_lt_of_cell y1)).trans y1, (hb.cell (block_lt_of_cell y2)).trans y2⟩
  have HB := Lib.hid hb0
  have hsz : b0 + 1 < W0.heap.size := hy.lt
  clear x0 x1 x2 y0 y1 y2 hB0 hx hy hW0 hb0
  go_region_held3 (fun X => X.cell? ⟨b0, 0, none⟩ = some (.int .i64 xa) ∧ X.cell? ⟨b0, 1, none⟩ = some (.int .i64 xb) ∧ X.cell? ⟨b0, 2, none⟩ = some (.int .i64 xc) ∧ X.cell? ⟨b0 + 1, 0, none⟩ = some (.int .i64 ya) ∧ X.cell? ⟨b0 + 1, 1, none⟩ = some (.int .i64 yb) ∧ X.cell? ⟨b0 + 1, 2, none⟩ = some (.int .i64 yc))
    (exact HQ.out _ (by repeat (first | (with_reducible assumption) | (with_reducible exact Below.refl _ _) | (with_reducible refine Below.drewN ?_ _) | (with_reducible refine Below.drew ?_) | with_reducible refine Below.setCell ?_ (by first | exact Nat.le_refl _ | (simp; done) | (simp; omega)) _ | with_reducible refine Below.alloc ?_ (by first | exact Nat.le_refl _ | omega | (simp; done) | (simp; omega)) _)))
    (first
      | (go_at_call 11; with_reducible refine (cmpInt _ _ _).mono ?_; rintro e w1 ⟨rfl, rfl⟩)
      | (go_at_call 12; with_reducible refine (cmpErr _ _ _).mono ?_; rintro e w1 ⟨rfl, rfl⟩)
      | (go_at_call 10; refine (or3 _ _ _ _ _ (Blk.new _ _ [_, _, _]).drew).mono ?_; rintro e w1 ⟨rfl, rfl⟩))
  go_wp2_with fail
  go_ret
  exact ⟨ret_int HE.out.symm, (HB0.out.trans (((Below.refl _ W0).alloc (Nat.le_refl _) _).mono HB0.out.size)).drew⟩
end Go.Proofs.Ytjofndhbpglfgaa
