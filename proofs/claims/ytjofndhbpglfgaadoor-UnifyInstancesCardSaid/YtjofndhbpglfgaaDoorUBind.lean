/- unify.bind. -/
import Derived.Test.YtjofndhbpglfgaaDoorUni
import Derived.Deep.RegionHeld3
import Derived.Deep.DeepCutAuto
import Derived.RegionTactic
namespace Go.Proofs.YtjofndhbpglfgaaDoor
open Go.RowKit Go.Shelf

theorem infoBoolS : (Tryd.prog.info? 4).map (fun i => (i.zero, i.size, i.bytes)) = some (some (.bool false), 1, 1) := by kernel_rfl
theorem made_bools (n : Nat) : madeCells (Value.bool false).cells n = (bools (List.replicate n false)).toArray := by
  apply Array.ext'
  rw [List.toList_toArray]
  apply List.ext_getElem
  · simp [madeCells, bools]
  · intro i h1 h2
    simp [madeCells, bools, Value.cells, Nat.mod_one]
theorem make_bools (n : Nat) (hn : n ≤ 281474976710) (W : World) : (Instr.makeSlice 128 (.int .i64 (n : Int)) (.int .i64 (n : Int))).run Tryd.prog W = .ok (.slice (some ⟨W.heap.size, 0, none⟩) n n) (W.alloc (.cells (bools (List.replicate n false)).toArray 4)) := by
  obtain ⟨i0, hi0, hz0, hz1, hz2⟩ := info_parts infoBoolS
  have h := run_make (P := Tryd.prog) W 128 4 i0 (.bool false) Tryd.underlying128 hi0 hz0 .i64 .i64 (n : Int) (n : Int) (by omega) (by omega) (by rw [hz2]; omega) (by omega)
  simp only [Int.toNat_natCast, hz1, Nat.mul_one] at h
  rw [made_bools] at h
  exact h

set_option maxRecDepth 100000 in
set_option maxHeartbeats 4000000 in
theorem bind_any (k : Nat) (F : Nat → Prop) (W : World) (p : Nat) (sv : Value) (g : Nat) (σ : List Ty) (hU : Uni F W p sv g σ) (hn : σ.length ≤ 281474976710) (v : Nat) (hv : v < σ.length) (t : Ty) (av : Value) (hT : TyC W F t av) (hV : VIn σ t) (r : Int) (σ' : List Ty)
    (hr : bindP k σ (v : Int) t = some (r, σ')) :
    Calls Tryd.prog 84 #[.pointer (some ⟨p, 0, none⟩), .int .i64 (v : Int), tyV t av] W (UniPost F W p g r σ') := by
  obtain ⟨cap, rfl, hlc, hcm⟩ := hU.form
  obtain ⟨A2, c2, rfl, hlc2, hcm2, _⟩ := hT.form
  have hlm : σ.length ≤ 9223372036854775807 := by omega
  have HMk := make_bools σ.length hn
  have hgl := hU.glt
  have hpl := hU.blk.lt
  obtain ⟨b0, hb0⟩ : ∃ b0, W.heap.size = b0 := ⟨_, rfl⟩
  obtain ⟨W0, hW0⟩ : ∃ W0, W.alloc (.cells #[.int .i64 t.kind, .string t.name, .int .i64 t.var, .slice A2 t.args.length c2] 45) = W0 := ⟨_, rfl⟩
  have hk0 : Keeps (fun _ => False) W W0 := by rw [← hW0]; exact (Keeps.refl _ _).alloc _
  have hw3 : Blk W0 b0 45 [.int .i64 t.kind, .string t.name, .int .i64 t.var, .slice A2 t.args.length c2] := by
    rw [← hW0, ← hb0]; exact Blk.new W _ [_, _, _, _]
  have hU0 := hU.keeps hk0 (fun h => h) (fun h => h) (fun _ _ h => h)
  have hT0 : TyC W0 F t _ := hT.keeps hk0 (fun _ _ h => h)
  have t0 := hw3.cell (i := 0) rfl
  have t1 := hw3.cell (i := 1) rfl
  have t2 := hw3.cell (i := 2) rfl
  have t3 := hw3.cell (i := 3) rfl
  have p0 := hU0.blk.cell (i := 0) rfl
  have hb0l := hw3.lt
  have hp0l := hU0.blk.lt
  have v0 : (0 : Int) ≤ (v : Int) := by omega
  have v1 : (v : Int) < (σ.length : Int) := by omega
  have hpb : p ≠ b0 := by omega
  have HU := Lib.hid hU
  have HT := Lib.hid hT
  have HV := Lib.hid hV
  have HN := Lib.hid hn
  have HK0 := Lib.hid hk0
  have HU0 := Lib.hid hU0
  have HT0 := Lib.hid hT0
  have HW0 := Lib.hid hW0
  have HB0 := Lib.hid hb0
  have HT3 := Lib.hid hw3
  rw [bindP] at hr
  unfold tyV
  by_cases hsame : t.kind = 0 ∧ t.var = (v : Int)
  · rw [if_pos hsame] at hr
    simp only [Option.some.injEq, Prod.mk.injEq] at hr
    have HR := Lib.hid hr
    have hkb : (t.kind == 0) = true := by rw [hsame.1]; rfl
    have hvb : (t.var == (v : Int)) = true := by rw [hsame.2]; simp
    clear hr hsame hU hT hV hn hk0 hU0 hT0 hW0 hb0 hw3
    go_enter Tryd.func84, Tryd.ntmps84
    go_wp2_with fail
    rw [HW0.out]
    go_ret
    refine ⟨by rw [← HR.out.1]; rfl, F, _, g, by rw [← HR.out.2]; exact HU0.out, HK0.out.mono (fun _ _ h => h.elim), .inl rfl, fun _ h => h, fun _ h => .inl h⟩
  · rw [if_neg hsame] at hr
    have hsplit : ((t.kind == 0) = true ∧ (t.var == (v : Int)) = false) ∨ (t.kind == 0) = false := by
      rcases Classical.em (t.kind = 0) with hx0 | hx0
      · exact .inl ⟨by rw [hx0]; rfl, by rw [beq_eq_false_iff_ne]; exact fun e => hsame ⟨hx0, e⟩⟩
      · exact .inr (by rw [beq_eq_false_iff_ne]; exact hx0)
    have HR := Lib.hid hr
    clear hr hsame hU hT hV hn hk0 hU0 hT0 hW0 hb0 hw3
    cases hocc : occP σ (v : Int) k (List.replicate σ.length false) t with
    | none => have := HR.out; rw [hocc] at this; cases this
    | some pr =>
    obtain ⟨b, so⟩ := pr
    have hR2 := HR.out
    rw [hocc] at hR2
    have HR2 := Lib.hid hR2
    have hHO := fun (X : World) (hb : Below W0.heap.size W0 X) (hx : Blk X W0.heap.size 4 (bools (List.replicate σ.length false))) =>
      (occ_any σ HU0.out.inn (v : Int) k _ (· < W0.heap.size) X p W0.heap.size (List.replicate σ.length false) t _ b so (HU0.out.sl.later hb) (HU0.out.blk.later hb) hx (fun i hi => ⟨Nat.ne_of_lt hi, Nat.lt_of_lt_of_le hi hb.size⟩) (by simp) ((HT0.out.later hb).mono (fun i hi => (HU0.out.im i hi).1)) HV.out hocc).mono
        (R' := fun e w' => e = .returned (.bool b) ∧ Below W0.heap.size W0 w') (fun e w' h => ⟨h.1, hb.trans (h.2.2.below (fun i hi => Nat.le_of_eq hi.symm) hb.size)⟩)
    rw [List.length_replicate] at hHO
    unfold tyV at hHO
    have HO := Lib.hid hHO
    have hQ : Hid (∀ X, Below W0.heap.size W0 X → (X.cell? ⟨p, 0, none⟩ = some (.slice (some ⟨g, 0, none⟩) σ.length cap) ∧ X.cell? ⟨b0, 0, none⟩ = some (.int .i64 t.kind) ∧ X.cell? ⟨b0, 1, none⟩ = some (.string t.name) ∧ X.cell? ⟨b0, 2, none⟩ = some (.int .i64 t.var) ∧ X.cell? ⟨b0, 3, none⟩ = some (.slice A2 t.args.length c2))) := fun X hb =>
      ⟨(hb.cell (block_lt_of_cell p0)).trans p0, (hb.cell (block_lt_of_cell t0)).trans t0, (hb.cell (block_lt_of_cell t1)).trans t1, (hb.cell (block_lt_of_cell t2)).trans t2, (hb.cell (block_lt_of_cell t3)).trans t3⟩
    clear hR2 hHO hocc HR
    go_enter Tryd.func84, Tryd.ntmps84
    rcases hsplit with ⟨hx0b, hxvb⟩ | hx0b
    all_goals
      go_wp2_with fail
      rw [HW0.out, HB0.out]
      go_region_held3 (fun X => X.cell? ⟨p, 0, none⟩ = some (.slice (some ⟨g, 0, none⟩) σ.length cap) ∧ X.cell? ⟨b0, 0, none⟩ = some (.int .i64 t.kind) ∧ X.cell? ⟨b0, 1, none⟩ = some (.string t.name) ∧ X.cell? ⟨b0, 2, none⟩ = some (.int .i64 t.var) ∧ X.cell? ⟨b0, 3, none⟩ = some (.slice A2 t.args.length c2))
        (exact hQ.out _ (by repeat (first | assumption | exact Below.refl _ _ | refine Below.drewN ?_ _ | refine Below.drew ?_ | refine Below.setCell ?_ (by first | exact Nat.le_refl _ | (simp; done) | (simp; omega)) _ | refine Below.alloc ?_ (by first | exact Nat.le_refl _ | omega | (simp; done) | (simp; omega)) _)))
        ((go_at_call 88; refine (HO.out _ (by repeat (first | assumption | exact Below.refl _ _ | refine Below.drewN ?_ _ | refine Below.drew ?_ | refine Below.setCell ?_ (by first | exact Nat.le_refl _ | (simp; done) | (simp; omega)) _ | refine Below.alloc ?_ (by first | exact Nat.le_refl _ | omega | (simp; done) | (simp; omega)) _)) (by first | exact Blk.new W0 _ _ | exact (Blk.new W0 _ _).drewN _)).mono ?_; rintro e w2 ⟨rfl, hb2⟩))
      have hU2 := HU0.out.later hb2
      have hT2 := HT0.out.later hb2
      have hk2 := (HK0.out.mono (Y := fun b => b = p ∨ b = g) (fun _ _ h => h.elim)).trans (Keeps.of_below (X := fun _ => False) hb2) (fun _ _ h => h.elim)
      have hB2 := HT3.out.later hb2
      have HU2 := Lib.hid hU2
      have HK2 := Lib.hid hk2
      have HT2 := Lib.hid hT2
      cases b with
      | true =>
        have HR3 := Lib.hid HR2.out
        simp only [Option.some.injEq, Prod.mk.injEq] at HR3
        clear hU2 hT2 hk2 hB2 hb2 t0 t1 t2 t3 p0
        go_wp2_with fail
        go_ret
        exact ⟨by rw [← HR3.out.1]; rfl, F, _, g, by rw [← HR3.out.2]; exact HU2.out, HK2.out, .inl rfl, fun _ h => h, fun _ h => .inl h⟩
      | false =>
        have hR3 := HR2.out
        dsimp only at hR3
        rw [Int.toNat_natCast] at hR3
        cases hsz : sizedP (σ.set v t) k with
        | none => rw [hsz] at hR3; cases hR3
        | some rs =>
        rw [hsz] at hR3
        simp only [Option.some.injEq, Prod.mk.injEq] at hR3
        obtain ⟨hS1, hS2⟩ := hU2.set HT2.out hv HV.out
        obtain ⟨x, xv, _, _, c0, c1, c2', c3⟩ := hU2.cells hv
        have f0 := hU2.free (v * 4)
        have f1 := hU2.free (v * 4 + 1)
        have f2 := hU2.free (v * 4 + 2)
        have f3 := hU2.free (v * 4 + 3)
        have q0 := hU2.blk.cell (i := 0) rfl
        have s0 := hB2.cell (i := 0) rfl
        have s1 := hB2.cell (i := 1) rfl
        have s2 := hB2.cell (i := 2) rfl
        have s3 := hB2.cell (i := 3) rfl
        obtain ⟨W4, hW4⟩ : ∃ W4, World.drew ((((w2.setCell ⟨g, v * 4, none⟩ (.int .i64 t.kind)).setCell ⟨g, v * 4 + 1, none⟩ (.string t.name)).setCell ⟨g, v * 4 + 2, none⟩ (.int .i64 t.var)).setCell ⟨g, v * 4 + 3, none⟩ (.slice A2 t.args.length c2)) = W4 := ⟨_, rfl⟩
        have hS3 : Uni F W4 p (.slice (some ⟨g, 0, none⟩) σ.length cap) g (σ.set v t) := by rw [← hW4]; exact hS1.later ((Below.refl _ _).drew)
        have hS4 : Keeps (· = g) w2 W4 := by rw [← hW4]; exact hS2.drew
        have HR3 := Lib.hid hR3
        have HSz := Lib.hid hsz
        have HS3 := Lib.hid hS3
        have HS4 := Lib.hid hS4
        have HW4 := Lib.hid hW4
        have hgp := hU2.ne
        have q1 := (hS3.blk.cell (i := 0) rfl)
        have HCz := Lib.hid (fun (X : World) (hX : Uni F X p (.slice (some ⟨g, 0, none⟩) σ.length cap) g (σ.set v t)) => sized_any (σ.set v t) hX.inn k _ _ X hX.sl (fun _ h => h) (by rw [List.length_set]; exact HN.out) rs HSz.out)
        clear hU2 hT2 hk2 hB2 hb2 t0 t1 t2 t3 p0 hR3 hsz hS1 hS2 hS3 hS4 hW4
        go_wp2_with fail
        go_region
        rw [HW4.out]
        go_wp2_with fail
        with_reducible refine (HCz.out W4 HS3.out).mono ?_
        rintro e w5 ⟨rfl, hb5⟩
        have HB5 := Lib.hid hb5
        clear hb5
        go_wp2_with fail
        go_ret
        refine ⟨by rw [← HR3.out.1]; rfl, F, _, g, by rw [← HR3.out.2]; exact HS3.out.later HB5.out, ?_, .inl rfl, fun _ h => h, fun _ h => .inl h⟩
        exact (HK2.out.trans HS4.out (fun _ _ h => .inr h)).trans (Keeps.of_below (X := fun _ => False) HB5.out) (fun _ _ h => h.elim)
end Go.Proofs.YtjofndhbpglfgaaDoor
