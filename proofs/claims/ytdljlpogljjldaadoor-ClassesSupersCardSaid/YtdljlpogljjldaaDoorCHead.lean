/- classes.headed. -/
import Derived.Test.YtdljlpogljjldaaDoorCFind
namespace Go.Proofs.YtdljlpogljjldaaDoor
open Go.RowKit Go.Shelf Go.Sort

theorem headR_step (l : List Ty) (k : Nat) (h : k < l.length) : headR (l.take k) (l.drop k) = if l[k].kind ≠ 0 ∨ (l.take k).any (fun b => decide (b.var = l[k].var)) = true then false else headR (l.take (k + 1)) (l.drop (k + 1)) := by
  rw [List.drop_eq_getElem_cons h, headR, List.take_succ_eq_append_getElem h]
set_option maxHeartbeats 4000000 in
theorem headed_any (t : Ty) (av : Value) (F : Nat → Prop) (W : World) (hT : TyC W F t av) (hF : ∀ b, F b → b < W.heap.size) :
    Calls Tryd.prog 27 #[.agg #[.int .i64 t.kind, .string t.name, .int .i64 t.var, av]] W fun e w' => e = .returned (.bool (headed t)) ∧ Keeps (fun _ => False) W w' := by
  obtain ⟨A, c, rfl, hlc, hcm, _⟩ := hT.form
  have hl : t.args.length ≤ 9223372036854775807 := by unfold maxLen at hcm; omega
  have hc63 : (c : Int) ≤ 9223372036854775807 := by unfold maxLen at hcm; omega
  obtain ⟨b0, hb0⟩ : ∃ b0, W.heap.size = b0 := ⟨_, rfl⟩
  obtain ⟨W0, hW0⟩ : ∃ W0, W.alloc (.cells #[.int .i64 t.kind, .string t.name, .int .i64 t.var, .slice A t.args.length c] 24) = W0 := ⟨_, rfl⟩
  have hk0 : Keeps (fun _ => False) W W0 := by rw [← hW0]; exact (Keeps.refl _ _).alloc _
  have hB0 : Blk W0 b0 24 [.int .i64 t.kind, .string t.name, .int .i64 t.var, .slice A t.args.length c] := by rw [← hW0, ← hb0]; exact Blk.new W _ [_, _, _, _]
  have HA := Lib.hid (hT.args.keeps hk0 (fun _ _ h => h))
  have HB := Lib.hid hB0
  have HK0 := Lib.hid hk0
  have HW0 := Lib.hid hW0
  have HBn := Lib.hid hb0
  have HF := Lib.hid (fun b hb => Nat.lt_of_lt_of_le (hF b hb) hk0.size)
  have a0 := hB0.cell (i := 0) rfl
  have a3 := hB0.cell (i := 3) rfl
  clear hT hk0 hB0 hW0 hb0 hF hcm
  by_cases h1 : t.kind = 1
  · have h1b : (t.kind == 1) = true := by rw [h1]; rfl
    have h1c : (t.kind != 1) = false := by rw [h1]; rfl
    have HE0 : Hid (headed t = headR [] t.args) := by show _ = _; rw [headed, if_neg (fun h => h h1)]
    clear h1
    go_enter Tryd.func27, Tryd.ntmps27
    go_wp2_with fail
    rw [HW0.out, HBn.out]
    go_wp2_with fail
    clear a0 a3
    go_loopw [11] (fun i wr => ∃ k : Nat, k ≤ t.args.length ∧ .int .i64 (k : Int) = i ∧ Keeps (fun _ => False) W0 wr ∧ Hid (headR [] t.args = headR (t.args.take k) (t.args.drop k))) (fun i _ => t.args.length - (intOf i).toNat)
    case atStart => exact ⟨0, Nat.zero_le _, rfl, Keeps.refl _ _, rfl⟩
    case round =>
      obtain ⟨k, hk, rfl, hkr, hno⟩ := hrel
      obtain ⟨wx, hwx⟩ : ∃ wx, wx = wr := ⟨_, rfl⟩
      rw [← hwx] at hkr ⊢
      clear hwx
      by_cases hlt : k < t.args.length
      · have hst := headR_step t.args k hlt
        obtain ⟨g, off, v1, hadr, hg, c0, c1, c2, c3, hTx⟩ := tyD.get (HA.out.keeps hkr (fun _ _ h => h)) hlt
        obtain rfl := hadr
        obtain ⟨A1, q1, rfl, _⟩ := hTx.form
        obtain ⟨x, hx⟩ : ∃ x, t.args[k] = x := ⟨_, rfl⟩
        rw [hx] at hst c0 c1 c2 c3
        have hbx := HB.out.keeps hkr (fun h => h)
        have d3 := hbx.cell (i := 3) rfl
        have hbl := hbx.lt
        obtain ⟨q, hq⟩ : ∃ q, (t.args.take k).any (fun b => decide (b.var = x.var)) = q := ⟨_, rfl⟩
        have HCF : Hid (∀ X b, Keeps (fun _ => False) W0 X → X.cell? ⟨b, 2, none⟩ = some (.int .i64 x.var) → Calls Tryd.prog 42 #[.slice (some ⟨g, off, none⟩) k c, .func (.func 43) #[] #[.pointer (some ⟨b, 0, none⟩)]] X (fun e w' => e = .returned (.bool q) ∧ Keeps (fun _ => False) W0 w')) := fun X b hx2 hc => by
          have hv2 := Sl.take (HA.out.keeps hx2 (fun _ _ h => h)) (i := k) (by omega)
          refine (tyHasFunc (t.args.take k) _ F X hv2 43 #[.pointer (some ⟨b, 0, none⟩)] (fun y => decide (y.var = x.var)) (enters_of Tryd.func43 (by kernel_rfl) rfl) (fun i h cs w1 hb1 hr => headed_clo _ _ F w1 b cs ((hb1.cell (block_lt_of_cell hc)).trans hc) hr)).mono ?_
          rintro e w' ⟨he, hb⟩
          exact ⟨by rw [he, hq], hx2.trans (Keeps.of_below (X := fun _ => False) hb) (fun _ _ h => h)⟩
        rw [hq] at hst
        have HNO := Lib.hid (hno.out.trans hst)
        have HKR := Lib.hid hkr
        have hkc : (k : Int) ≤ (c : Int) := by omega
        have hkc' : ¬ c < k := by omega
        have hk0 : (0 : Int) ≤ (k : Int) := by omega
        have hkl : (k : Int) < (t.args.length : Int) := by omega
        clear hst hno hkr hx hbx hTx hq
        by_cases hx0 : x.kind = 0
        · have hx0b : (x.kind != 0) = false := by rw [hx0]; rfl
          have HX0 := Lib.hid hx0
          clear hx0
          go_wp2_with fail
          refine (HCF.out _ _ (HKR.out.alloc _) ((Blk.new wx 24 [_, _, .int .i64 x.var, _]).cell (i := 2) rfl)).mono ?_
          rintro e w5 ⟨rfl, hk5⟩
          have HK5 := Lib.hid hk5
          clear hk5
          cases q
          · have HE := Lib.hid (HNO.out.trans (if_neg (by simp [HX0.out])))
            clear HNO
            go_wp2_with fail
            go_roundw
            case rel => exact ⟨k + 1, by omega, by go_num, HK5.out, HE.out⟩
            case measure => simp [intOf]; omega
          · have HE : Hid (headed t = false) := by show _ = _; rw [HE0.out, HNO.out, if_pos (.inr rfl)]
            clear HNO
            go_wp2_with fail
            go_ret
            exact ⟨ret_bool HE.out.symm, HK0.out.trans HK5.out (fun _ _ h => h)⟩
        · have hx0b : (x.kind != 0) = true := by rw [bne_iff_ne]; exact hx0
          have HE : Hid (headed t = false) := by show _ = _; rw [HE0.out, HNO.out, if_pos (.inl hx0)]
          clear HNO hx0
          go_wp2_with fail
          go_ret
          exact ⟨ret_bool HE.out.symm, HK0.out.trans (HKR.out.alloc _) (fun _ _ h => h)⟩
      · have hd : t.args.drop k = [] := List.drop_eq_nil_of_le (by omega)
        have HE : Hid (headed t = true) := by show _ = _; rw [HE0.out, hno.out, hd, headR]
        have HKR := Lib.hid hkr
        have hkl : ¬ (k : Int) < (t.args.length : Int) := by omega
        clear hd hno hkr
        go_wp2_with fail
        go_ret
        exact ⟨ret_bool HE.out.symm, HK0.out.trans HKR.out (fun _ _ h => h)⟩
  · have h1c : (t.kind != 1) = true := by rw [bne_iff_ne]; exact h1
    have HE : Hid (headed t = false) := by show _ = _; rw [headed, if_pos h1]
    clear h1
    go_enter Tryd.func27, Tryd.ntmps27
    go_wp2_with fail
    rw [HW0.out, HBn.out]
    go_wp2_with fail
    go_ret
    exact ⟨ret_bool HE.out.symm, HK0.out⟩
end Go.Proofs.YtdljlpogljjldaaDoor
