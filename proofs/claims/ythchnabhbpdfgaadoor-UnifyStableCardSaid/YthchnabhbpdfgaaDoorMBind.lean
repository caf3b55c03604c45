/- unify.bind. unify.tail. unify.Ext, unify.Con. -/
import Derived.Test.YthchnabhbpdfgaaDoorUni
import Derived.Deep.RegionHeld3
import Derived.Deep.DeepCutAuto
import Derived.RegionTactic
import Derived.Deep.LoopGhost
import Derived.Outline
import Derived.Deep.RegionLaw
section
namespace Go.Proofs.YthchnabhbpdfgaaDoor
open Go.RowKit Go.Shelf

theorem infoBoolS : (Tryd.prog.info? 4).map (fun i => (i.zero, i.size, i.bytes)) = some (some (.bool false), 1, 1) := by kernel_rfl
theorem made_bools (n : Nat) : madeCells (Value.bool false).cells n = (bools (List.replicate n false)).toArray := by
  apply Array.ext'
  rw [List.toList_toArray]
  apply List.ext_getElem
  · simp [madeCells, bools]
  · intro i h1 h2
    simp [madeCells, bools, Value.cells, Nat.mod_one]
theorem make_bools (n : Nat) (hn : n ≤ 281474976710) (W : World) : (Instr.makeSlice 75 (.int .i64 (n : Int)) (.int .i64 (n : Int))).run Tryd.prog W = .ok (.slice (some ⟨W.heap.size, 0, none⟩) n n) (W.alloc (.cells (bools (List.replicate n false)).toArray 4)) := by
  obtain ⟨i0, hi0, hz0, hz1, hz2⟩ := info_parts infoBoolS
  have h := run_make (P := Tryd.prog) W 75 4 i0 (.bool false) Tryd.underlying75 hi0 hz0 .i64 .i64 (n : Int) (n : Int) (by omega) (by omega) (by rw [hz2]; omega) (by omega)
  simp only [Int.toNat_natCast, hz1, Nat.mul_one] at h
  rw [made_bools] at h
  exact h

set_option maxRecDepth 100000 in
set_option maxHeartbeats 4000000 in
theorem bind_any (k : Nat) (F : Nat → Prop) (W : World) (p : Nat) (sv : Value) (g : Nat) (σ : List Ty) (hU : Uni F W p sv g σ) (hn : σ.length ≤ 281474976710) (v : Nat) (hv : v < σ.length) (t : Ty) (av : Value) (hT : TyC W F t av) (hV : VIn σ t) (r : Int) (σ' : List Ty)
    (hr : bindP k σ (v : Int) t = some (r, σ')) :
    Calls Tryd.prog 39 #[.pointer (some ⟨p, 0, none⟩), .int .i64 (v : Int), tyV t av] W (UniPost F W p g r σ') := by
  obtain ⟨cap, rfl, hlc, hcm⟩ := hU.form
  obtain ⟨A2, c2, rfl, hlc2, hcm2, _⟩ := hT.form
  have hlm : σ.length ≤ 9223372036854775807 := by omega
  have HMk := make_bools σ.length hn
  have hgl := hU.glt
  have hpl := hU.blk.lt
  obtain ⟨b0, hb0⟩ : ∃ b0, W.heap.size = b0 := ⟨_, rfl⟩
  obtain ⟨W0, hW0⟩ : ∃ W0, W.alloc (.cells #[.int .i64 t.kind, .string t.name, .int .i64 t.var, .slice A2 t.args.length c2] 24) = W0 := ⟨_, rfl⟩
  have hk0 : Keeps (fun _ => False) W W0 := by rw [← hW0]; exact (Keeps.refl _ _).alloc _
  have hw3 : Blk W0 b0 24 [.int .i64 t.kind, .string t.name, .int .i64 t.var, .slice A2 t.args.length c2] := by
    rw [← hW0, ← hb0]; exact Blk.new W _ [_, _, _, _]
  have hU0 := hU.keeps hk0 (fun h => h) (fun h => h) (fun _ _ h => h)
  have hT0 : TyC W0 F t _ := hT.keeps hk0 (fun _ _ h => h)
  have t0 := hw3.cell (i := 0) rfl
  have t1 := hw3.cell (i := 1) rfl
  have t2 := hw3.cell (i := 2) rfl
  have t3 := hw3.cell (i := 3) rfl
  have p0 := hU0.blk.cell (i := 0) rfl
  have hb0l := hw3.lt
  have hp0l := hU0.blk.lt
  have v0 : (0 : Int) ≤ (v : Int) := by omega
  have v1 : (v : Int) < (σ.length : Int) := by omega
  have hpb : p ≠ b0 := by omega
  have HU := Lib.hid hU
  have HT := Lib.hid hT
  have HV := Lib.hid hV
  have HN := Lib.hid hn
  have HK0 := Lib.hid hk0
  have HU0 := Lib.hid hU0
  have HT0 := Lib.hid hT0
  have HW0 := Lib.hid hW0
  have HB0 := Lib.hid hb0
  have HT3 := Lib.hid hw3
  rw [bindP] at hr
  unfold tyV
  by_cases hsame : t.kind = 0 ∧ t.var = (v : Int)
  · rw [if_pos hsame] at hr
    simp only [Option.some.injEq, Prod.mk.injEq] at hr
    have HR := Lib.hid hr
    have hkb : (t.kind == 0) = true := by rw [hsame.1]; rfl
    have hvb : (t.var == (v : Int)) = true := by rw [hsame.2]; simp
    clear hr hsame hU hT hV hn hk0 hU0 hT0 hW0 hb0 hw3
    go_enter Tryd.func39, Tryd.ntmps39
    go_wp2_with fail
    rw [HW0.out]
    go_ret
    refine ⟨by rw [← HR.out.1]; rfl, F, _, g, by rw [← HR.out.2]; exact HU0.out, HK0.out.mono (fun _ _ h => h.elim), .inl rfl, fun _ h => h, fun _ h => .inl h⟩
  · rw [if_neg hsame] at hr
    have hsplit : ((t.kind == 0) = true ∧ (t.var == (v : Int)) = false) ∨ (t.kind == 0) = false := by
      rcases Classical.em (t.kind = 0) with hx0 | hx0
      · exact .inl ⟨by rw [hx0]; rfl, by rw [beq_eq_false_iff_ne]; exact fun e => hsame ⟨hx0, e⟩⟩
      · exact .inr (by rw [beq_eq_false_iff_ne]; exact hx0)
    have HR := Lib.hid hr
    clear hr hsame hU hT hV hn hk0 hU0 hT0 hW0 hb0 hw3
    cases hocc : occP σ (v : Int) k (List.replicate σ.length false) t with
    | none => have := HR.out; rw [hocc] at this; cases this
    | some pr =>
    obtain ⟨b, so⟩ := pr
    have hR2 := HR.out
    rw [hocc] at hR2
    have HR2 := Lib.hid hR2
    have hHO := fun (X : World) (hb : Below W0.heap.size W0 X) (hx : Blk X W0.heap.size 4 (bools (List.replicate σ.length false))) =>
      (occ_any σ HU0.out.inn (v : Int) k _ (· < W0.heap.size) X p W0.heap.size (List.replicate σ.length false) t _ b so (HU0.out.sl.later hb) (HU0.out.blk.later hb) hx (fun i hi => ⟨Nat.ne_of_lt hi, Nat.lt_of_lt_of_le hi hb.size⟩) (by simp) ((HT0.out.later hb).mono (fun i hi => (HU0.out.im i hi).1)) HV.out hocc).mono
        (R' := fun e w' => e = .returned (.bool b) ∧ Below W0.heap.size W0 w') (fun e w' h => ⟨h.1, hb.trans (h.2.2.below (fun i hi => Nat.le_of_eq hi.symm) hb.size)⟩)
    rw [List.length_replicate] at hHO
    unfold tyV at hHO
    have HO := Lib.hid hHO
    have hQ : Hid (∀ X, Below W0.heap.size W0 X → (X.cell? ⟨p, 0, none⟩ = some (.slice (some ⟨g, 0, none⟩) σ.length cap) ∧ X.cell? ⟨b0, 0, none⟩ = some (.int .i64 t.kind) ∧ X.cell? ⟨b0, 1, none⟩ = some (.string t.name) ∧ X.cell? ⟨b0, 2, none⟩ = some (.int .i64 t.var) ∧ X.cell? ⟨b0, 3, none⟩ = some (.slice A2 t.args.length c2))) := fun X hb =>
      ⟨(hb.cell (block_lt_of_cell p0)).trans p0, (hb.cell (block_lt_of_cell t0)).trans t0, (hb.cell (block_lt_of_cell t1)).trans t1, (hb.cell (block_lt_of_cell t2)).trans t2, (hb.cell (block_lt_of_cell t3)).trans t3⟩
    clear hR2 hHO hocc HR
    go_enter Tryd.func39, Tryd.ntmps39
    rcases hsplit with ⟨hx0b, hxvb⟩ | hx0b
    all_goals
      go_wp2_with fail
      rw [HW0.out, HB0.out]
      go_region_held3 (fun X => X.cell? ⟨p, 0, none⟩ = some (.slice (some ⟨g, 0, none⟩) σ.length cap) ∧ X.cell? ⟨b0, 0, none⟩ = some (.int .i64 t.kind) ∧ X.cell? ⟨b0, 1, none⟩ = some (.string t.name) ∧ X.cell? ⟨b0, 2, none⟩ = some (.int .i64 t.var) ∧ X.cell? ⟨b0, 3, none⟩ = some (.slice A2 t.args.length c2))
        (exact hQ.out _ (by repeat (first | assumption | exact Below.refl _ _ | refine Below.drewN ?_ _ | refine Below.drew ?_ | refine Below.setCell ?_ (by first | exact Nat.le_refl _ | (simp; done) | (simp; omega)) _ | refine Below.alloc ?_ (by first | exact Nat.le_refl _ | omega | (simp; done) | (simp; omega)) _)))
        ((go_at_call 44; refine (HO.out _ (by repeat (first | assumption | exact Below.refl _ _ | refine Below.drewN ?_ _ | refine Below.drew ?_ | refine Below.setCell ?_ (by first | exact Nat.le_refl _ | (simp; done) | (simp; omega)) _ | refine Below.alloc ?_ (by first | exact Nat.le_refl _ | omega | (simp; done) | (simp; omega)) _)) (by first | exact Blk.new W0 _ _ | exact (Blk.new W0 _ _).drewN _)).mono ?_; rintro e w2 ⟨rfl, hb2⟩))
      have hU2 := HU0.out.later hb2
      have hT2 := HT0.out.later hb2
      have hk2 := (HK0.out.mono (Y := fun b => b = p ∨ b = g) (fun _ _ h => h.elim)).trans (Keeps.of_below (X := fun _ => False) hb2) (fun _ _ h => h.elim)
      have hB2 := HT3.out.later hb2
      have HU2 := Lib.hid hU2
      have HK2 := Lib.hid hk2
      have HT2 := Lib.hid hT2
      cases b with
      | true =>
        have HR3 := Lib.hid HR2.out
        simp only [Option.some.injEq, Prod.mk.injEq] at HR3
        clear hU2 hT2 hk2 hB2 hb2 t0 t1 t2 t3 p0
        go_wp2_with fail
        go_ret
        exact ⟨by rw [← HR3.out.1]; rfl, F, _, g, by rw [← HR3.out.2]; exact HU2.out, HK2.out, .inl rfl, fun _ h => h, fun _ h => .inl h⟩
      | false =>
        have hR3 := HR2.out
        dsimp only at hR3
        rw [Int.toNat_natCast] at hR3
        cases hsz : sizedP (σ.set v t) k with
        | none => rw [hsz] at hR3; cases hR3
        | some rs =>
        rw [hsz] at hR3
        simp only [Option.some.injEq, Prod.mk.injEq] at hR3
        obtain ⟨hS1, hS2⟩ := hU2.set HT2.out hv HV.out
        obtain ⟨x, xv, _, _, c0, c1, c2', c3⟩ := hU2.cells hv
        have f0 := hU2.free (v * 4)
        have f1 := hU2.free (v * 4 + 1)
        have f2 := hU2.free (v * 4 + 2)
        have f3 := hU2.free (v * 4 + 3)
        have q0 := hU2.blk.cell (i := 0) rfl
        have s0 := hB2.cell (i := 0) rfl
        have s1 := hB2.cell (i := 1) rfl
        have s2 := hB2.cell (i := 2) rfl
        have s3 := hB2.cell (i := 3) rfl
        obtain ⟨W4, hW4⟩ : ∃ W4, World.drew ((((w2.setCell ⟨g, v * 4, none⟩ (.int .i64 t.kind)).setCell ⟨g, v * 4 + 1, none⟩ (.string t.name)).setCell ⟨g, v * 4 + 2, none⟩ (.int .i64 t.var)).setCell ⟨g, v * 4 + 3, none⟩ (.slice A2 t.args.length c2)) = W4 := ⟨_, rfl⟩
        have hS3 : Uni F W4 p (.slice (some ⟨g, 0, none⟩) σ.length cap) g (σ.set v t) := by rw [← hW4]; exact hS1.later ((Below.refl _ _).drew)
        have hS4 : Keeps (· = g) w2 W4 := by rw [← hW4]; exact hS2.drew
        have HR3 := Lib.hid hR3
        have HSz := Lib.hid hsz
        have HS3 := Lib.hid hS3
        have HS4 := Lib.hid hS4
        have HW4 := Lib.hid hW4
        have hgp := hU2.ne
        have q1 := (hS3.blk.cell (i := 0) rfl)
        have HCz := Lib.hid (fun (X : World) (hX : Uni F X p (.slice (some ⟨g, 0, none⟩) σ.length cap) g (σ.set v t)) => sized_any (σ.set v t) hX.inn k _ _ X hX.sl (fun _ h => h) (by rw [List.length_set]; exact HN.out) rs HSz.out)
        clear hU2 hT2 hk2 hB2 hb2 t0 t1 t2 t3 p0 hR3 hsz hS1 hS2 hS3 hS4 hW4
        go_wp2_with fail
        go_region
        rw [HW4.out]
        go_wp2_with fail
        with_reducible refine (HCz.out W4 HS3.out).mono ?_
        rintro e w5 ⟨rfl, hb5⟩
        have HB5 := Lib.hid hb5
        clear hb5
        go_wp2_with fail
        go_ret
        refine ⟨by rw [← HR3.out.1]; rfl, F, _, g, by rw [← HR3.out.2]; exact HS3.out.later HB5.out, ?_, .inl rfl, fun _ h => h, fun _ h => .inl h⟩
        exact (HK2.out.trans HS4.out (fun _ _ h => .inr h)).trans (Keeps.of_below (X := fun _ => False) HB5.out) (fun _ _ h => h.elim)
end Go.Proofs.YthchnabhbpdfgaaDoor
end

section
namespace Go.Proofs.YthchnabhbpdfgaaDoor
open Go.RowKit Go.Shelf

set_option maxRecDepth 100000 in
set_option maxHeartbeats 4000000 in
theorem tail_any (k : Nat) (F : Nat → Prop) (W : World) (p : Nat) (sv : Value) (g : Nat) (σ : List Ty) (hU : Uni F W p sv g σ) (t : Ty) (av : Value) (hT : TyC W F t av) (hV : VIn σ t) (r : Int)
    (hr : tailP σ k t = some r) :
    Calls Tryd.prog 46 #[.pointer (some ⟨p, 0, none⟩), tyV t av] W fun e w' => e = .returned (.int .i64 r) ∧ Below W.heap.size W w' := by
  obtain ⟨cap, rfl, hlc, hcm⟩ := hU.form
  obtain ⟨A2, c2, rfl, hlc2, hcm2, _⟩ := hT.form
  obtain ⟨b0, hb0⟩ : ∃ b0, W.heap.size = b0 := ⟨_, rfl⟩
  obtain ⟨W0, hW0⟩ : ∃ W0, W.alloc (.cells #[.int .i64 t.kind, .string t.name, .int .i64 t.var, .slice A2 t.args.length c2] 24) = W0 := ⟨_, rfl⟩
  have hk0 : Keeps (fun _ => False) W W0 := by rw [← hW0]; exact (Keeps.refl _ _).alloc _
  have hw3 : Blk W0 b0 24 [.int .i64 t.kind, .string t.name, .int .i64 t.var, .slice A2 t.args.length c2] := by
    rw [← hW0, ← hb0]; exact Blk.new W _ [_, _, _, _]
  have hU0 := hU.keeps hk0 (fun h => h) (fun h => h) (fun _ _ h => h)
  have hbw0 : Below W.heap.size W W0 := hk0.below (fun _ h => h.elim) (Nat.le_refl _)
  have hpl := hU.blk.lt
  have hgl := hU.glt
  have hpb : p ≠ b0 := by omega
  have hgb : g ≠ b0 := by omega
  have hpb' : p < b0 := by omega
  rw [tailP] at hr
  cases hw : walkP σ k t with
  | none => rw [hw] at hr; cases hr
  | some t1 =>
  rw [hw] at hr
  dsimp only at hr
  have HWk := Lib.hid (fun X (hb : Below W0.heap.size W0 X) => hU.walk (hbw0.trans (hb.mono hbw0.size)) k t t1 _ (hT.below (fun b hb => (hU.im b hb).1) (hbw0.trans (hb.mono hbw0.size))) hV hw)
  unfold tyV at HWk
  have hV1 := walkP_in σ hU.inn k t t1 hV hw
  have t0 := hw3.cell (i := 0) rfl
  have t1' := hw3.cell (i := 1) rfl
  have t2 := hw3.cell (i := 2) rfl
  have t3 := hw3.cell (i := 3) rfl
  have p0 := hU0.blk.cell (i := 0) rfl
  have hb0l := hw3.lt
  have hp0l := hU0.blk.lt
  have HU := Lib.hid hU
  have HU0 := Lib.hid hU0
  have HK0 := Lib.hid hk0
  have HBw := Lib.hid hbw0
  have HB0 := Lib.hid hb0
  have HW0 := Lib.hid hW0
  have HT3 := Lib.hid hw3
  have HR := Lib.hid hr
  have HV1 := Lib.hid hV1
  unfold tyV
  clear hU hU0 hk0 hb0 hW0 hw3 hr hT hV hV1 hw hbw0
  go_enter Tryd.func46, Tryd.ntmps46
  go_wp2_with fail
  rw [HW0.out, HB0.out]
  go_upto_region 1 with fail
  go_cut [3] (fun s3 wc => ∃ tv, s3 = .pointer (some ⟨b0, 0, none⟩) ∧ Blk wc b0 24 [.int .i64 t1.kind, .string t1.name, .int .i64 t1.var, tv] ∧ TyC wc F t1 tv ∧ Below W.heap.size W wc)
  case first =>
    go_region_law (go_simp; go_at_call 19; refine (HWk.out _ (by repeat (first | (with_reducible assumption) | (with_reducible exact Below.refl _ _) | (with_reducible refine Below.drewN ?_ _) | (with_reducible refine Below.drew ?_) | with_reducible refine Below.setCell ?_ (by first | exact Nat.le_refl _ | (simp; done) | (simp; omega)) _ | with_reducible refine Below.alloc ?_ (by first | exact Nat.le_refl _ | omega | (simp; done) | (simp; omega)) _))).mono ?_; rintro e w2 ⟨tv, rfl, hT2, hb2⟩; obtain ⟨A7, c7, rfl, _⟩ := hT2.form; unfold tyV; have hw2 : Below W0.heap.size W0 w2 := Below.trans (by repeat (first | (with_reducible assumption) | (with_reducible exact Below.refl _ _) | (with_reducible refine Below.drewN ?_ _) | (with_reducible refine Below.drew ?_) | with_reducible refine Below.setCell ?_ (by first | exact Nat.le_refl _ | (simp; done) | (simp; omega)) _ | with_reducible refine Below.alloc ?_ (by first | exact Nat.le_refl _ | omega | (simp; done) | (simp; omega)) _)) (hb2.mono (by simp)); have hB2 := HT3.out.later hw2; have k0 := hB2.cell (i := 0) rfl; have k1 := hB2.cell (i := 1) rfl; have k2 := hB2.cell (i := 2) rfl; have k3 := hB2.cell (i := 3) rfl; have m0 := hB2.free 0; have m1 := hB2.free 1; have m2 := hB2.free 2; have m3 := hB2.free 3; go_wp2_with fail)
    all_goals
      obtain ⟨hB4, hK4⟩ := four hB2 (.int .i64 t1.kind) (.string t1.name) (.int .i64 t1.var) (.slice A7 t1.args.length c7)
      have hz := HB0.out
      have hbz : Below W.heap.size W w2 := HBw.out.trans (hw2.mono HBw.out.size)
      clear k0 k1 k2 k3 m0 m1 m2 m3
      go_wp2_with fail
      go_meet
      exact ⟨_, rfl, hB4, hT2.keeps hK4 (fun i hi h => by have := (HU.out.im i hi).1; omega), hbz.trans (hK4.below (fun i h => by omega) hbz.size)⟩
  case rest =>
    obtain ⟨tv, rfl, hbt, hTt, hbw⟩ := hcut
    have HBt0 := Lib.hid hbt
    have HTt0 := Lib.hid hTt
    have HBw0 := Lib.hid hbw
    clear hbt hTt hbw t0 t1' t2 t3 p0
    go_wp2_with fail
    go_loopg [11] k (fun q _ wr => ∃ (cur : Ty) (cv : Value), Blk wr b0 24 [.int .i64 cur.kind, .string cur.name, .int .i64 cur.var, cv] ∧ TyC wr F cur cv ∧ VIn σ cur ∧ Below W.heap.size W wr ∧ Hid (tailL σ k q cur = some r))
    case atStart => exact ⟨t1, _, HBt0.out, HTt0.out, HV1.out, HBw0.out, HR.out⟩
    case round =>
      obtain ⟨cur, cv, hbt, hTc, hvi, hbw, hw⟩ := hrel
      obtain ⟨A3, c3, rfl, hlc3, hcm3, _⟩ := hTc.form
      have d0 := hbt.cell (i := 0) rfl
      have d2 := hbt.cell (i := 2) rfl
      have d3 := hbt.cell (i := 3) rfl
      have HBw := Lib.hid hbw
      have HBt := Lib.hid hbt
      cases gk with
      | zero => have := hw.out; rw [tailL] at this; cases this
      | succ q =>
        have hw1 := hw.out
        rw [tailL] at hw1
        by_cases h5 : cur.kind = 5
        · rw [if_pos h5] at hw1
          have hUw := HU.out.later hbw
          have p1 := hUw.blk.cell (i := 0) rfl
          have hp1 := hUw.blk.lt
          have hbl := hbt.lt
          match hcar : cur.args, hw1 with
          | [], hw1 => cases hw1
          | [_], hw1 => cases hw1
          | x :: y :: rest, hw1 =>
            dsimp only at hw1
            cases hwy : walkP σ k y with
            | none => rw [hwy] at hw1; cases hw1
            | some y1 =>
            rw [hwy] at hw1
            dsimp only at hw1
            have hl2 : 1 < cur.args.length := by rw [hcar]; simp
            obtain ⟨gy, off, yv, hadr, hgy, e0, e1, e2, e3, hTy⟩ := tyD.get hTc.args hl2
            obtain rfl := hadr
            have hgy' : cur.args[1] = y := by simp [hcar]
            rw [hgy'] at e0 e1 e2 hTy
            obtain ⟨A4, c4, rfl, _⟩ := hTy.form
            have hViy : VIn σ y := hvi.arg (by rw [h5]; decide) (by rw [hcar]; simp)
            have hVy1 := walkP_in σ HU.out.inn k y y1 hViy hwy
            have HWy := Lib.hid (fun X (hb : Below wr.heap.size wr X) => HU.out.walk (hbw.trans (hb.mono hbw.size)) k y y1 _ (hTy.later hb) hViy hwy)
            unfold tyV at HWy
            have HVy := Lib.hid hVy1
            have HW1 := Lib.hid hw1
            have hl3 : (1 : Int) < (cur.args.length : Int) := by omega
            have hl4 : cur.args.length ≤ 9223372036854775807 := by unfold maxLen at hcm3; omega
            rw [h5] at d0
            have hgyl := block_lt_of_cell e0
            clear hTc hvi hw hw1 hTy hViy hVy1 hwy hcar hgy' hUw hbt hbw h5 hl2
            go_wp2_with fail
            go_region_law (go_simp; go_at_call 19; refine (HWy.out _ (by repeat (first | (with_reducible assumption) | (with_reducible exact Below.refl _ _) | (with_reducible refine Below.drewN ?_ _) | (with_reducible refine Below.drew ?_) | with_reducible refine Below.setCell ?_ (by first | exact Nat.le_refl _ | (simp; done) | (simp; omega)) _ | with_reducible refine Below.alloc ?_ (by first | exact Nat.le_refl _ | omega | (simp; done) | (simp; omega)) _))).mono ?_; rintro e w2 ⟨tv, rfl, hT2, hb2⟩; obtain ⟨A7, c7, rfl, _⟩ := hT2.form; unfold tyV; have hw2 : Below wr.heap.size wr w2 := Below.trans (by repeat (first | (with_reducible assumption) | (with_reducible exact Below.refl _ _) | (with_reducible refine Below.drewN ?_ _) | (with_reducible refine Below.drew ?_) | with_reducible refine Below.setCell ?_ (by first | exact Nat.le_refl _ | (simp; done) | (simp; omega)) _ | with_reducible refine Below.alloc ?_ (by first | exact Nat.le_refl _ | omega | (simp; done) | (simp; omega)) _)) (hb2.mono (by simp)); have hB2 := HBt.out.later hw2; have k0 := hB2.cell (i := 0) rfl; have k1 := hB2.cell (i := 1) rfl; have k2 := hB2.cell (i := 2) rfl; have k3 := hB2.cell (i := 3) rfl; have m0 := hB2.free 0; have m1 := hB2.free 1; have m2 := hB2.free 2; have m3 := hB2.free 3; go_wp2_with fail)
            all_goals
              obtain ⟨hB4, hK4⟩ := four hB2 (.int .i64 y1.kind) (.string y1.name) (.int .i64 y1.var) (.slice A7 y1.args.length c7)
              have hz := HB0.out
              have hbz : Below W.heap.size W w2 := HBw.out.trans (hw2.mono HBw.out.size)
              clear k0 k1 k2 k3 m0 m1 m2 m3
              go_wp2_with fail
              go_roundg q
              case measure => omega
              case rel => exact ⟨y1, _, hB4, hT2.keeps hK4 (fun i hi h => by have := (HU.out.im i hi).1; omega), HVy.out, hbz.trans (hK4.below (fun i h => by omega) hbz.size), HW1.out⟩
        · rw [if_neg h5] at hw1
          have h5b : (cur.kind == 5) = false := by rw [beq_eq_false_iff_ne]; exact h5
          have HW1 := Lib.hid (Option.some.inj hw1)
          by_cases h0 : cur.kind = 0
          · have h0b : (cur.kind == 0) = true := by rw [h0]; rfl
            have HRv := Lib.hid ((if_pos h0).symm.trans HW1.out)
            clear hTc hvi hw hw1 hbt hbw h5 h0
            go_wp2_with fail
            go_ret
            exact ⟨by rw [HRv.out]; rfl, HBw.out⟩
          · have h0b : (cur.kind == 0) = false := by rw [beq_eq_false_iff_ne]; exact h0
            have HRv := Lib.hid ((if_neg h0).symm.trans HW1.out)
            clear hTc hvi hw hw1 hbt hbw h5 h0
            go_wp2_with fail
            go_ret
            exact ⟨by rw [← HRv.out]; rfl, HBw.out⟩
end Go.Proofs.YthchnabhbpdfgaaDoor
end

section
namespace Go.Proofs.YthchnabhbpdfgaaDoor
open Go.RowKit Go.Shelf

def conT (name : ByteArray) (l : List Ty) : Ty := .mk 1 name 0 l
/-- Two types in a row. -/
theorem rp_two {W : World} {F : Nat → Prop} {t u : Ty} {av bv : Value} (ht : TyC W F t av) (hu : TyC W F u bv) : RpAll W F ([t, u].map tyD) (t.cells av ++ u.cells bv) := by
  simp only [List.map_cons, List.map_nil, rpAll_cons, rpAll_nil]
  exact ⟨_, _, rfl, tyD.rp.2 ⟨av, rfl, ht⟩, _, [], by simp, tyD.rp.2 ⟨bv, rfl, hu⟩, rfl⟩
theorem sl_two {W : World} {F : Nat → Prop} {t u : Ty} {av bv : Value} {g : Nat} {cap : Nat} (hb : Blk W g 24 (t.cells av ++ u.cells bv)) (hg : F g) (ht : TyC W F t av) (hu : TyC W F u bv) (hc : 2 ≤ cap) (hc' : cap ≤ maxLen) : Sl W F tyD [t, u] (.slice (some ⟨g, 0, none⟩) 2 cap) := by
  unfold Sl
  simp only [Rp]
  exact ⟨_, cap, rfl, by simpa using hc, hc', (fun h => nomatch h), fun _ => ⟨g, 0, _, rfl, hg, rp_two ht hu, fun j u hj => by rw [Nat.zero_add]; exact hb.cell hj⟩⟩
theorem wf_small (x : Int) (h : 0 ≤ x) (h' : x ≤ 281474976710) : (Lit.int .i64 x).wf = true := by
  obtain ⟨n, rfl⟩ : ∃ n : Nat, x = (n : Int) := ⟨x.toNat, by omega⟩
  exact wfI_nat (by omega)
/-- Blocks of old, and those that came since. -/
def Since (F : Nat → Prop) (W w' : World) (b : Nat) : Prop := F b ∨ (W.heap.size ≤ b ∧ b < w'.heap.size)
def TyNew (r : Ty) (F : Nat → Prop) (W : World) (e : Ending) (w' : World) : Prop := ∃ av, e = .returned (tyV r av) ∧ TyC w' (Since F W w') r av ∧ Below W.heap.size W w'

set_option maxHeartbeats 1000000 in
theorem ext_any (label : ByteArray) (hlab : label.size ≤ maxLen) (W : World) (F : Nat → Prop) (t u : Ty) (av bv : Value) (ht : TyC W F t av) (hu : TyC W F u bv) :
    Calls Tryd.prog 36 #[.string label, tyV t av, tyV u bv] W (TyNew (extT label t u) F W) := by
  obtain ⟨A1, c1, rfl, _⟩ := ht.form
  obtain ⟨A2, c2, rfl, _⟩ := hu.form
  have HT := Lib.hid ht
  have HU := Lib.hid hu
  have HL := Lib.hid hlab
  clear ht hu hlab
  unfold tyV
  go_enter Tryd.func36, Tryd.ntmps36
  go_wp2_with fail
  obtain ⟨W2, hW2⟩ : ∃ W2, (W.alloc (.cells #[.int .i64 t.kind, .string t.name, .int .i64 t.var, .slice A1 t.args.length c1] 24)).alloc (.cells #[.int .i64 u.kind, .string u.name, .int .i64 u.var, .slice A2 u.args.length c2] 24) = W2 := ⟨_, rfl⟩
  have hs2 : W2.heap.size = W.heap.size + 1 + 1 := by rw [← hW2]; simp
  have hk2 : Keeps (fun _ => False) W W2 := by rw [← hW2]; exact ((Keeps.refl _ _).alloc _).alloc _
  rw [hW2, ← hs2]
  have hk3 : Keeps (fun _ => False) W ((W2.alloc (.cells #[.int .i64 5, .string label, .int .i64 0, .slice (some ⟨W2.heap.size + 1, 0, none⟩) 2 2] 24)).alloc (.cells #[.int .i64 t.kind, .string t.name, .int .i64 t.var, .slice A1 t.args.length c1, .int .i64 u.kind, .string u.name, .int .i64 u.var, .slice A2 u.args.length c2] 24)) := (hk2.alloc _).alloc _
  have hb1 := (Blk.new W2 24 [.int .i64 5, .string label, .int .i64 0, .slice (some ⟨W2.heap.size + 1, 0, none⟩) 2 2]).alloc (.cells #[.int .i64 t.kind, .string t.name, .int .i64 t.var, .slice A1 t.args.length c1, .int .i64 u.kind, .string u.name, .int .i64 u.var, .slice A2 u.args.length c2] 24)
  have hb2 := Blk.new (W2.alloc (.cells #[.int .i64 5, .string label, .int .i64 0, .slice (some ⟨W2.heap.size + 1, 0, none⟩) 2 2] 24)) 24 (t.cells (.slice A1 t.args.length c1) ++ u.cells (.slice A2 u.args.length c2))
  rw [show (W2.alloc (.cells #[.int .i64 5, .string label, .int .i64 0, .slice (some ⟨W2.heap.size + 1, 0, none⟩) 2 2] 24)).heap.size = W2.heap.size + 1 by simp] at hb2
  refine ret_row Tryd.results36 rfl hb1 Tryd.underlying24 (by kernel_rfl) rfl ⟨_, rfl, ?_, hk3.below (fun _ h => h.elim) (Nat.le_refl _)⟩
  have hlt := hb2.lt
  exact ⟨wf_small 5 (by decide) (by decide), HL.out, wf_small 0 (by decide) (by decide), sl_two hb2 (.inr ⟨by omega, hlt⟩) ((HT.out.keeps hk3 (fun _ _ h => h)).mono (fun _ h => .inl h)) ((HU.out.keeps hk3 (fun _ _ h => h)).mono (fun _ h => .inl h)) (Nat.le_refl _) (by unfold maxLen; omega)⟩
end Go.Proofs.YthchnabhbpdfgaaDoor
end
