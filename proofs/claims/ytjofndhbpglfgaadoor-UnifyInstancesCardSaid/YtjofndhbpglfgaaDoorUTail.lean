/- unify.tail. -/
import Derived.Test.YtjofndhbpglfgaaDoorUBind
import Derived.Deep.LoopGhost
import Derived.Outline
import Derived.Deep.RegionLaw
namespace Go.Proofs.YtjofndhbpglfgaaDoor
open Go.RowKit Go.Shelf

set_option maxRecDepth 100000 in
set_option maxHeartbeats 4000000 in
theorem tail_any (k : Nat) (F : Nat → Prop) (W : World) (p : Nat) (sv : Value) (g : Nat) (σ : List Ty) (hU : Uni F W p sv g σ) (t : Ty) (av : Value) (hT : TyC W F t av) (hV : VIn σ t) (r : Int)
    (hr : tailP σ k t = some r) :
    Calls Tryd.prog 90 #[.pointer (some ⟨p, 0, none⟩), tyV t av] W fun e w' => e = .returned (.int .i64 r) ∧ Below W.heap.size W w' := by
  obtain ⟨cap, rfl, hlc, hcm⟩ := hU.form
  obtain ⟨A2, c2, rfl, hlc2, hcm2, _⟩ := hT.form
  obtain ⟨b0, hb0⟩ : ∃ b0, W.heap.size = b0 := ⟨_, rfl⟩
  obtain ⟨W0, hW0⟩ : ∃ W0, W.alloc (.cells #[.int .i64 t.kind, .string t.name, .int .i64 t.var, .slice A2 t.args.length c2] 45) = W0 := ⟨_, rfl⟩
  have hk0 : Keeps (fun _ => False) W W0 := by rw [← hW0]; exact (Keeps.refl _ _).alloc _
  have hw3 : Blk W0 b0 45 [.int .i64 t.kind, .string t.name, .int .i64 t.var, .slice A2 t.args.length c2] := by
    rw [← hW0, ← hb0]; exact Blk.new W _ [_, _, _, _]
  have hU0 := hU.keeps hk0 (fun h => h) (fun h => h) (fun _ _ h => h)
  have hbw0 : Below W.heap.size W W0 := hk0.below (fun _ h => h.elim) (Nat.le_refl _)
  have hpl := hU.blk.lt
  have hgl := hU.glt
  have hpb : p ≠ b0 := by omega
  have hgb : g ≠ b0 := by omega
  have hpb' : p < b0 := by omega
  rw [tailP] at hr
  cases hw : walkP σ k t with
  | none => rw [hw] at hr; cases hr
  | some t1 =>
  rw [hw] at hr
  dsimp only at hr
  have HWk := Lib.hid (fun X (hb : Below W0.heap.size W0 X) => hU.walk (hbw0.trans (hb.mono hbw0.size)) k t t1 _ (hT.below (fun b hb => (hU.im b hb).1) (hbw0.trans (hb.mono hbw0.size))) hV hw)
  unfold tyV at HWk
  have hV1 := walkP_in σ hU.inn k t t1 hV hw
  have t0 := hw3.cell (i := 0) rfl
  have t1' := hw3.cell (i := 1) rfl
  have t2 := hw3.cell (i := 2) rfl
  have t3 := hw3.cell (i := 3) rfl
  have p0 := hU0.blk.cell (i := 0) rfl
  have hb0l := hw3.lt
  have hp0l := hU0.blk.lt
  have HU := Lib.hid hU
  have HU0 := Lib.hid hU0
  have HK0 := Lib.hid hk0
  have HBw := Lib.hid hbw0
  have HB0 := Lib.hid hb0
  have HW0 := Lib.hid hW0
  have HT3 := Lib.hid hw3
  have HR := Lib.hid hr
  have HV1 := Lib.hid hV1
  unfold tyV
  clear hU hU0 hk0 hb0 hW0 hw3 hr hT hV hV1 hw hbw0
  go_enter Tryd.func90, Tryd.ntmps90
  go_wp2_with fail
  rw [HW0.out, HB0.out]
  go_upto_region 1 with fail
  go_cut [3] (fun s3 wc => ∃ tv, s3 = .pointer (some ⟨b0, 0, none⟩) ∧ Blk wc b0 45 [.int .i64 t1.kind, .string t1.name, .int .i64 t1.var, tv] ∧ TyC wc F t1 tv ∧ Below W.heap.size W wc)
  case first =>
    go_region_law (go_simp; go_at_call 65; refine (HWk.out _ (by repeat (first | (with_reducible assumption) | (with_reducible exact Below.refl _ _) | (with_reducible refine Below.drewN ?_ _) | (with_reducible refine Below.drew ?_) | with_reducible refine Below.setCell ?_ (by first | exact Nat.le_refl _ | (simp; done) | (simp; omega)) _ | with_reducible refine Below.alloc ?_ (by first | exact Nat.le_refl _ | omega | (simp; done) | (simp; omega)) _))).mono ?_; rintro e w2 ⟨tv, rfl, hT2, hb2⟩; obtain ⟨A7, c7, rfl, _⟩ := hT2.form; unfold tyV; have hw2 : Below W0.heap.size W0 w2 := Below.trans (by repeat (first | (with_reducible assumption) | (with_reducible exact Below.refl _ _) | (with_reducible refine Below.drewN ?_ _) | (with_reducible refine Below.drew ?_) | with_reducible refine Below.setCell ?_ (by first | exact Nat.le_refl _ | (simp; done) | (simp; omega)) _ | with_reducible refine Below.alloc ?_ (by first | exact Nat.le_refl _ | omega | (simp; done) | (simp; omega)) _)) (hb2.mono (by simp)); have hB2 := HT3.out.later hw2; have k0 := hB2.cell (i := 0) rfl; have k1 := hB2.cell (i := 1) rfl; have k2 := hB2.cell (i := 2) rfl; have k3 := hB2.cell (i := 3) rfl; have m0 := hB2.free 0; have m1 := hB2.free 1; have m2 := hB2.free 2; have m3 := hB2.free 3; go_wp2_with fail)
    all_goals
      obtain ⟨hB4, hK4⟩ := four hB2 (.int .i64 t1.kind) (.string t1.name) (.int .i64 t1.var) (.slice A7 t1.args.length c7)
      have hz := HB0.out
      have hbz : Below W.heap.size W w2 := HBw.out.trans (hw2.mono HBw.out.size)
      clear k0 k1 k2 k3 m0 m1 m2 m3
      go_wp2_with fail
      go_meet
      exact ⟨_, rfl, hB4, hT2.keeps hK4 (fun i hi h => by have := (HU.out.im i hi).1; omega), hbz.trans (hK4.below (fun i h => by omega) hbz.size)⟩
  case rest =>
    obtain ⟨tv, rfl, hbt, hTt, hbw⟩ := hcut
    have HBt0 := Lib.hid hbt
    have HTt0 := Lib.hid hTt
    have HBw0 := Lib.hid hbw
    clear hbt hTt hbw t0 t1' t2 t3 p0
    go_wp2_with fail
    go_loopg [11] k (fun q _ wr => ∃ (cur : Ty) (cv : Value), Blk wr b0 45 [.int .i64 cur.kind, .string cur.name, .int .i64 cur.var, cv] ∧ TyC wr F cur cv ∧ VIn σ cur ∧ Below W.heap.size W wr ∧ Hid (tailL σ k q cur = some r))
    case atStart => exact ⟨t1, _, HBt0.out, HTt0.out, HV1.out, HBw0.out, HR.out⟩
    case round =>
      obtain ⟨cur, cv, hbt, hTc, hvi, hbw, hw⟩ := hrel
      obtain ⟨A3, c3, rfl, hlc3, hcm3, _⟩ := hTc.form
      have d0 := hbt.cell (i := 0) rfl
      have d2 := hbt.cell (i := 2) rfl
      have d3 := hbt.cell (i := 3) rfl
      have HBw := Lib.hid hbw
      have HBt := Lib.hid hbt
      cases gk with
      | zero => have := hw.out; rw [tailL] at this; cases this
      | succ q =>
        have hw1 := hw.out
        rw [tailL] at hw1
        by_cases h5 : cur.kind = 5
        · rw [if_pos h5] at hw1
          have hUw := HU.out.later hbw
          have p1 := hUw.blk.cell (i := 0) rfl
          have hp1 := hUw.blk.lt
          have hbl := hbt.lt
          match hcar : cur.args, hw1 with
          | [], hw1 => cases hw1
          | [_], hw1 => cases hw1
          | x :: y :: rest, hw1 =>
            dsimp only at hw1
            cases hwy : walkP σ k y with
            | none => rw [hwy] at hw1; cases hw1
            | some y1 =>
            rw [hwy] at hw1
            dsimp only at hw1
            have hl2 : 1 < cur.args.length := by rw [hcar]; simp
            obtain ⟨gy, off, yv, hadr, hgy, e0, e1, e2, e3, hTy⟩ := tyD.get hTc.args hl2
            obtain rfl := hadr
            have hgy' : cur.args[1] = y := by simp [hcar]
            rw [hgy'] at e0 e1 e2 hTy
            obtain ⟨A4, c4, rfl, _⟩ := hTy.form
            have hViy : VIn σ y := hvi.arg (by rw [h5]; decide) (by rw [hcar]; simp)
            have hVy1 := walkP_in σ HU.out.inn k y y1 hViy hwy
            have HWy := Lib.hid (fun X (hb : Below wr.heap.size wr X) => HU.out.walk (hbw.trans (hb.mono hbw.size)) k y y1 _ (hTy.later hb) hViy hwy)
            unfold tyV at HWy
            have HVy := Lib.hid hVy1
            have HW1 := Lib.hid hw1
            have hl3 : (1 : Int) < (cur.args.length : Int) := by omega
            have hl4 : cur.args.length ≤ 9223372036854775807 := by unfold maxLen at hcm3; omega
            rw [h5] at d0
            have hgyl := block_lt_of_cell e0
            clear hTc hvi hw hw1 hTy hViy hVy1 hwy hcar hgy' hUw hbt hbw h5 hl2
            go_wp2_with fail
            go_region_law (go_simp; go_at_call 65; refine (HWy.out _ (by repeat (first | (with_reducible assumption) | (with_reducible exact Below.refl _ _) | (with_reducible refine Below.drewN ?_ _) | (with_reducible refine Below.drew ?_) | with_reducible refine Below.setCell ?_ (by first | exact Nat.le_refl _ | (simp; done) | (simp; omega)) _ | with_reducible refine Below.alloc ?_ (by first | exact Nat.le_refl _ | omega | (simp; done) | (simp; omega)) _))).mono ?_; rintro e w2 ⟨tv, rfl, hT2, hb2⟩; obtain ⟨A7, c7, rfl, _⟩ := hT2.form; unfold tyV; have hw2 : Below wr.heap.size wr w2 := Below.trans (by repeat (first | (with_reducible assumption) | (with_reducible exact Below.refl _ _) | (with_reducible refine Below.drewN ?_ _) | (with_reducible refine Below.drew ?_) | with_reducible refine Below.setCell ?_ (by first | exact Nat.le_refl _ | (simp; done) | (simp; omega)) _ | with_reducible refine Below.alloc ?_ (by first | exact Nat.le_refl _ | omega | (simp; done) | (simp; omega)) _)) (hb2.mono (by simp)); have hB2 := HBt.out.later hw2; have k0 := hB2.cell (i := 0) rfl; have k1 := hB2.cell (i := 1) rfl; have k2 := hB2.cell (i := 2) rfl; have k3 := hB2.cell (i := 3) rfl; have m0 := hB2.free 0; have m1 := hB2.free 1; have m2 := hB2.free 2; have m3 := hB2.free 3; go_wp2_with fail)
            all_goals
              obtain ⟨hB4, hK4⟩ := four hB2 (.int .i64 y1.kind) (.string y1.name) (.int .i64 y1.var) (.slice A7 y1.args.length c7)
              have hz := HB0.out
              have hbz : Below W.heap.size W w2 := HBw.out.trans (hw2.mono HBw.out.size)
              clear k0 k1 k2 k3 m0 m1 m2 m3
              go_wp2_with fail
              go_roundg q
              case measure => omega
              case rel => exact ⟨y1, _, hB4, hT2.keeps hK4 (fun i hi h => by have := (HU.out.im i hi).1; omega), HVy.out, hbz.trans (hK4.below (fun i h => by omega) hbz.size), HW1.out⟩
        · rw [if_neg h5] at hw1
          have h5b : (cur.kind == 5) = false := by rw [beq_eq_false_iff_ne]; exact h5
          have HW1 := Lib.hid (Option.some.inj hw1)
          by_cases h0 : cur.kind = 0
          · have h0b : (cur.kind == 0) = true := by rw [h0]; rfl
            have HRv := Lib.hid ((if_pos h0).symm.trans HW1.out)
            clear hTc hvi hw hw1 hbt hbw h5 h0
            go_wp2_with fail
            go_ret
            exact ⟨by rw [HRv.out]; rfl, HBw.out⟩
          · have h0b : (cur.kind == 0) = false := by rw [beq_eq_false_iff_ne]; exact h0
            have HRv := Lib.hid ((if_neg h0).symm.trans HW1.out)
            clear hTc hvi hw hw1 hbt hbw h5 h0
            go_wp2_with fail
            go_ret
            exact ⟨by rw [← HRv.out]; rfl, HBw.out⟩
end Go.Proofs.YtjofndhbpglfgaaDoor
