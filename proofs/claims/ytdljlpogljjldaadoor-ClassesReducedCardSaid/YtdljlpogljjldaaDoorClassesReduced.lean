/- ClassesReduced. -/
import Derived.Test.YtdljlpogljjldaaDoorCList
import Derived.Test.YtdljlpogljjldaaDoorCReduce
import Derived.Test.YtdljlpogljjldaaDoorCSized
import Derived.Test.YtdljlpogljjldaaDoorHanded
import Derived.Lib.LaidTab
import Derived.LaidSub
namespace Go.Proofs.YtdljlpogljjldaaDoor.classesReduced
open Go.RowKit Go.Shelf Go.ChangeShapes Go.WideShapes Go.Sort Go.Proofs.YtdljlpogljjldaaDoor

def vp : Pred := ⟨⟨#[67, 48]⟩, .mk 0 ⟨#[]⟩ 2 []⟩
theorem vp_red : reduceS (clsList 1) [] [vp, vp] 402 = some (0, [vp]) := by kernel_rfl
theorem vp_sl {W : World} {g : Nat} (hb : Blk W g 35 [.string ⟨#[67, 48]⟩, .int .i64 0, .string ⟨#[]⟩, .int .i64 2, .slice none 0 0, .string ⟨#[67, 48]⟩, .int .i64 0, .string ⟨#[]⟩, .int .i64 2, .slice none 0 0]) : Sl W (fun b => b < W.heap.size) Pred.d [vp, vp] (.slice (some ⟨g, 0, none⟩) 2 2) := by
  have h1 : ∀ u ∈ [(vp, Value.slice none 0 0), (vp, Value.slice none 0 0)], u.1.cls.size ≤ maxLen ∧ TyC W (fun b => b < W.heap.size) u.1.ty u.2 := fun u hu => by
    have : u = (vp, Value.slice none 0 0) := by simpa using hu
    subst this
    exact ⟨by decide, ⟨by decide, by decide, by decide, Sl.nil_⟩⟩
  have h2 := pr_rp h1
  have hl := hb.lt
  unfold Sl
  simp only [Rp]
  refine ⟨_, 2, rfl, Nat.le_refl _, by unfold maxLen; omega, (fun h => nomatch h), fun _ => ⟨g, 0, _, rfl, hl, h2, fun j u hj => by rw [Nat.zero_add]; exact hb.cell hj⟩⟩
set_option maxRecDepth 100000 in
set_option maxHeartbeats 16000000 in
theorem walk (l : List ClassSig) (s : List InstSig) (preds : List Pred) (hfit : Fits s) (vl vi vv : Value) (W : World) (hvl : Sl W (· < W.heap.size) ClassSig.d l vl) (hvi : Sl W (· < W.heap.size) InstSig.d s vi) (hvp : Sl W (· < W.heap.size) Pred.d preds vv) (hz : Szs W) :
    Calls Tryd.prog 6 #[vl, vi, vv] W (fun e w' => e = .returned (.bool true) ∧ Below W.heap.size W w') := by
  obtain ⟨b7, hb7⟩ : ∃ b7, W.heap.size = b7 := ⟨_, rfl⟩
  obtain ⟨W0, hW0⟩ : ∃ W0, W.alloc (.cells #[.string ⟨#[67, 48]⟩, .int .i64 0, .string ⟨#[]⟩, .int .i64 2, .slice none 0 0] 35) = W0 := ⟨_, rfl⟩
  have hk0 : Keeps (fun _ => False) W W0 := by rw [← hW0]; exact (Keeps.refl _ _).alloc _
  have hB7 : Blk W0 b7 35 [.string ⟨#[67, 48]⟩, .int .i64 0, .string ⟨#[]⟩, .int .i64 2, .slice none 0 0] := by rw [← hW0, ← hb7]; exact Blk.new W _ [_, _, _, _, _]
  have hsW0 := hk0.size
  have HCl : Hid (∀ X, Keeps (fun _ => False) W0 X → Calls Tryd.prog 8 #[.int .i64 1] X (fun e w' => Keeps (fun _ => False) X w' ∧ ∃ u, e = .returned u ∧ Sl w' (fun b => b < w'.heap.size) ClassSig.d (clsList 1) u)) := fun X _ => by
    refine (classList_any 1 (by decide) X).mono ?_
    rintro e w' ⟨h1, u, h2, h3⟩
    exact ⟨h1, u, h2, h3.mono (fun b hb => hb.2)⟩
  have HRd : Hid (∀ X u g, Keeps (fun _ => False) W0 X → Sl X (fun b => b < X.heap.size) ClassSig.d (clsList 1) u → Blk X g 35 [.string ⟨#[67, 48]⟩, .int .i64 0, .string ⟨#[]⟩, .int .i64 2, .slice none 0 0, .string ⟨#[67, 48]⟩, .int .i64 0, .string ⟨#[]⟩, .int .i64 2, .slice none 0 0] → Calls Tryd.prog 18 #[u, .slice none 0 0, .slice (some ⟨g, 0, none⟩) 2 2] X (fun e w' => Keeps (fun _ => False) X w' ∧ ∃ A c, e = .returned (.tuple #[.slice A 1 c, .int .i64 0]))) := fun X u g hk hu hb => by
    refine (Reduce_any (clsList 1) [] [vp, vp] (fun x hx => by cases hx) u (.slice none 0 0) _ (fun b => b < X.heap.size) X hu Sl.nil_ (vp_sl hb) (fun _ h => h) ((hz.keeps hk0 (fun h => h)).keeps hk (fun h => h)) 0 [vp] vp_red).mono ?_
    rintro e w' ⟨h1, ur, h2, h3⟩
    obtain ⟨Ar, cr, h4, _⟩ := h3.form
    exact ⟨h1, Ar, cr, by rw [h2, h4]; rfl⟩
  have hQ : Hid (∀ X, Keeps (fun _ => False) W0 X → (X.cell? ⟨b7, 0, none⟩ = some (.string ⟨#[67, 48]⟩) ∧ X.cell? ⟨b7, 1, none⟩ = some (.int .i64 0) ∧ X.cell? ⟨b7, 2, none⟩ = some (.string ⟨#[]⟩) ∧ X.cell? ⟨b7, 3, none⟩ = some (.int .i64 2) ∧ X.cell? ⟨b7, 4, none⟩ = some (.slice none 0 0))) := fun X hk => by
    have hx := hB7.keeps hk (fun h => h)
    exact ⟨hx.cell (i := 0) rfl, hx.cell (i := 1) rfl, hx.cell (i := 2) rfl, hx.cell (i := 3) rfl, hx.cell (i := 4) rfl⟩
  have HVl := Lib.hid hvl
  have HVi := Lib.hid hvi
  have HVp := Lib.hid hvp
  have HZ := Lib.hid hz
  have HFit := Lib.hid hfit
  have HK0 := Lib.hid hk0
  have HB7 := Lib.hid hB7
  have HW0 := Lib.hid hW0
  have HBn := Lib.hid hb7
  clear hvl hvi hvp hz hfit hk0 hB7 hW0 hb7 hsW0
  go_enter Tryd.func6, Tryd.ntmps6
  go_upto_region 2 with (fail)
  rw [HW0.out, HBn.out]
  go_cut [8, 9] (fun v8 v9 wd => v9 = .int .i64 0 ∧ Keeps (fun _ => False) W0 wd ∧ ∃ A c, v8 = .slice A 1 c)
  case first =>
    refine wp_region_noPanic ?_
    refine wp_region_till [] (fun X => X.cell? ⟨b7, 0, none⟩ = some (.string ⟨#[67, 48]⟩) ∧ X.cell? ⟨b7, 1, none⟩ = some (.int .i64 0) ∧ X.cell? ⟨b7, 2, none⟩ = some (.string ⟨#[]⟩) ∧ X.cell? ⟨b7, 3, none⟩ = some (.int .i64 2) ∧ X.cell? ⟨b7, 4, none⟩ = some (.slice none 0 0)) (by kernel_rfl) ?_ (fun hE => ?_)
    · exact hQ.out _ (by repeat (first | (with_reducible assumption) | (with_reducible exact Keeps.refl _ _) | (with_reducible refine Keeps.drewN ?_ _) | (with_reducible refine Keeps.drew ?_) | with_reducible refine Keeps.setCell ?_ (by first | (intro _; exact rfl) | (intro _; exact Or.inl rfl) | (intro _; exact Or.inr rfl) | (simp; done) | (simp; omega)) _ | (with_reducible refine Keeps.alloc ?_ _)))
    have hS := hE (by kernel_rfl)
    refine wpAnyT_take (i := 1) (oi := { dst := some 26, op := Op.load 35 (Operand.tmp 7), type := 35, pos := "types.go:703", after := #[], guard := none }) (v := ?v2_1_1) rfl (by kernel_rfl) (fun _ _ _ h => h) (Or.inl ⟨by rfl, ?y2_1_1⟩) hS ?_
    case y2_1_1 => (intro w hSw; (try dsimp only at hSw); go_simp; try with_reducible rfl)
    try simp only [Act.put, List.setIfInBounds_toArray, List.set_cons_zero, List.set_cons_succ]
    refine wpAnyT_take (i := 2) (oi := { dst := some 27, op := Op.load 35 (Operand.tmp 7), type := 35, pos := "types.go:703", after := #[], guard := none }) (v := ?v2_2_2) rfl (by kernel_rfl) (fun _ _ _ h => h) (Or.inl ⟨by rfl, ?y2_2_2⟩) hS ?_
    case y2_2_2 => (intro w hSw; (try dsimp only at hSw); go_simp; try with_reducible rfl)
    try simp only [Act.put, List.setIfInBounds_toArray, List.set_cons_zero, List.set_cons_succ]
    refine wpAnyT_ready (rs := [0, 3]) (by kernel_rfl) rfl ?_
    refine AllT.cons (o := { dst := some 25, op := Op.call { callee := Callee.value (Operand.func 8), args := #[Operand.const (Value.int IntKind.i64 1)], argTypes := #[3] }, type := 31, pos := "types.go:703", after := #[], guard := none }) rfl (fun K hK => ?_) ?_
    · (go_simp; go_at_call 8; with_reducible refine (HCl.out _ (by repeat (first | (with_reducible assumption) | (with_reducible exact Keeps.refl _ _) | (with_reducible refine Keeps.drewN ?_ _) | (with_reducible refine Keeps.drew ?_) | with_reducible refine Keeps.setCell ?_ (by first | (intro _; exact rfl) | (intro _; exact Or.inl rfl) | (intro _; exact Or.inr rfl) | (simp; done) | (simp; omega)) _ | (with_reducible refine Keeps.alloc ?_ _)))).mono ?_; rintro e wq ⟨hkq, u, rfl, hsu⟩; go_wp2_with fail; have hkQ := Keeps.trans (show Keeps (fun _ => False) W0 _ from (by repeat (first | (with_reducible assumption) | (with_reducible exact Keeps.refl _ _) | (with_reducible refine Keeps.drewN ?_ _) | (with_reducible refine Keeps.drew ?_) | with_reducible refine Keeps.setCell ?_ (by first | (intro _; exact rfl) | (intro _; exact Or.inl rfl) | (intro _; exact Or.inr rfl) | (simp; done) | (simp; omega)) _ | (with_reducible refine Keeps.alloc ?_ _)))) hkq (fun _ _ h => h))
      refine hK.out _ _ (fun _ => ?_) (fun hE => ?_)
      · exact hQ.out _ (by repeat (first | (with_reducible assumption) | (with_reducible exact Keeps.refl _ _) | (with_reducible refine Keeps.drewN ?_ _) | (with_reducible refine Keeps.drew ?_) | with_reducible refine Keeps.setCell ?_ (by first | (intro _; exact rfl) | (intro _; exact Or.inl rfl) | (intro _; exact Or.inr rfl) | (simp; done) | (simp; omega)) _ | (with_reducible refine Keeps.alloc ?_ _)))
      have hS := hE (by kernel_rfl)
      clear hK K hE
      try simp only [Act.put, List.setIfInBounds_toArray, List.set_cons_zero, List.set_cons_succ]
      refine wpAnyT_ready (rs := [3]) (by kernel_rfl) rfl ?_
      refine AllT.cons (o := { dst := some 28, op := Op.buildSlice 36 2 #[(0, Operand.tmp 26), (1, Operand.tmp 27)], type := 36, pos := "types.go:703", after := #[⟨1, .data⟩, ⟨2, .data⟩], guard := none }) rfl (fun K hK => ?_) ?_
      · go_simp
        refine hK.out _ _ (fun _ => ?_) (fun hE => ?_)
        · exact hQ.out _ (by repeat (first | (with_reducible assumption) | (with_reducible exact Keeps.refl _ _) | (with_reducible refine Keeps.drewN ?_ _) | (with_reducible refine Keeps.drew ?_) | with_reducible refine Keeps.setCell ?_ (by first | (intro _; exact rfl) | (intro _; exact Or.inl rfl) | (intro _; exact Or.inr rfl) | (simp; done) | (simp; omega)) _ | (with_reducible refine Keeps.alloc ?_ _)))
        have hS := hE (by kernel_rfl)
        clear hK K hE
        try simp only [Act.put, List.setIfInBounds_toArray, List.set_cons_zero, List.set_cons_succ]
        refine wpAnyT_ready (rs := [4]) (by kernel_rfl) rfl ?_
        refine AllT.cons (o := { dst := some 29, op := Op.call { callee := Callee.value (Operand.func 18), args := #[Operand.tmp 25, Operand.const (Value.slice none 0 0), Operand.tmp 28], argTypes := #[31, 45, 36] }, type := 54, pos := "types.go:703", after := #[⟨0, .data⟩, ⟨3, .data⟩, ⟨0, .chain⟩], guard := none }) rfl (fun K hK => ?_) ?_
        · (go_simp; go_at_call 18; with_reducible refine (HRd.out _ _ _ (by repeat (first | (with_reducible assumption) | (with_reducible exact Keeps.refl _ _) | (with_reducible refine Keeps.drewN ?_ _) | (with_reducible refine Keeps.drew ?_) | with_reducible refine Keeps.setCell ?_ (by first | (intro _; exact rfl) | (intro _; exact Or.inl rfl) | (intro _; exact Or.inr rfl) | (simp; done) | (simp; omega)) _ | (with_reducible refine Keeps.alloc ?_ _))) (by first | exact hsu | exact (hsu.keeps ((Keeps.refl (fun _ => False) _).alloc _) (fun _ _ h => h)).mono (fun b hb => by simp; omega)) (by first | exact Blk.new _ _ [_, _, _, _, _, _, _, _, _, _] | exact (Blk.new _ _ [_, _, _, _, _, _, _, _, _, _]).keeps ((Keeps.drew (Keeps.refl (fun _ => False) _)).trans hkq (fun _ _ h => h)) (fun h => h))).mono ?_; rintro e w5 ⟨hk5, Ar, cr, rfl⟩; go_wp2_with fail; have hkR := Keeps.trans (show Keeps (fun _ => False) W0 _ from (by repeat (first | (with_reducible assumption) | (with_reducible exact Keeps.refl _ _) | (with_reducible refine Keeps.drewN ?_ _) | (with_reducible refine Keeps.drew ?_) | with_reducible refine Keeps.setCell ?_ (by first | (intro _; exact rfl) | (intro _; exact Or.inl rfl) | (intro _; exact Or.inr rfl) | (simp; done) | (simp; omega)) _ | (with_reducible refine Keeps.alloc ?_ _)))) hk5 (fun _ _ h => h))
          refine hK.out _ _ (fun _ => ?_) (fun hE => ?_)
          · exact hQ.out _ (by repeat (first | (with_reducible assumption) | (with_reducible exact Keeps.refl _ _) | (with_reducible refine Keeps.drewN ?_ _) | (with_reducible refine Keeps.drew ?_) | with_reducible refine Keeps.setCell ?_ (by first | (intro _; exact rfl) | (intro _; exact Or.inl rfl) | (intro _; exact Or.inr rfl) | (simp; done) | (simp; omega)) _ | (with_reducible refine Keeps.alloc ?_ _)))
          have hS := hE (by kernel_rfl)
          clear hK K hE
          try simp only [Act.put, List.setIfInBounds_toArray, List.set_cons_zero, List.set_cons_succ]
          refine wpAnyT_pure (i := 5) (oi := { dst := some 24, op := Op.move (Operand.tmp 29), type := 54, pos := "types.go:703", after := #[⟨4, .data⟩], guard := none }) (v := ?v2_5_3) rfl (by kernel_rfl) (fun _ _ _ h => h) (Or.inl ⟨by rfl, ?y2_5_3⟩) (fun _ => hS) ?_
          case y2_5_3 => (intro w hSw; go_simp; try with_reducible rfl)
          try simp only [Act.put, List.setIfInBounds_toArray, List.set_cons_zero, List.set_cons_succ]
          refine wpAnyT_pure (i := 6) (oi := { dst := some 30, op := Op.extract (Operand.tmp 24) 0, type := 36, pos := "types.go:703", after := #[⟨5, .data⟩], guard := none }) (v := ?v2_6_4) rfl (by kernel_rfl) (fun _ _ _ h => h) (Or.inl ⟨by rfl, ?y2_6_4⟩) (fun _ => hS) ?_
          case y2_6_4 => (intro w hSw; go_simp; try with_reducible rfl)
          try simp only [Act.put, List.setIfInBounds_toArray, List.set_cons_zero, List.set_cons_succ]
          refine wpAnyT_pure (i := 7) (oi := { dst := some 31, op := Op.extract (Operand.tmp 24) 1, type := 28, pos := "types.go:703", after := #[⟨5, .data⟩, ⟨8, .gcOnly .lateStores⟩], guard := none }) (v := ?v2_7_5) rfl (by kernel_rfl) (fun _ _ _ h => h) (Or.inl ⟨by rfl, ?y2_7_5⟩) (fun _ => hS) ?_
          case y2_7_5 => (intro w hSw; go_simp; try with_reducible rfl)
          try simp only [Act.put, List.setIfInBounds_toArray, List.set_cons_zero, List.set_cons_succ]
          refine wpAnyT_ready (rs := [8]) (by kernel_rfl) rfl ?_
          refine AllT.cons (o := { dst := some 8, op := Op.assign (Operand.tmp 30), type := 36, pos := "types.go:703", after := #[⟨6, .data⟩, ⟨4, .chain⟩, ⟨0, .phase⟩, ⟨1, .phase⟩, ⟨2, .phase⟩, ⟨3, .phase⟩, ⟨4, .phase⟩, ⟨5, .phase⟩, ⟨6, .phase⟩, ⟨7, .textOnly .lateStores⟩], guard := none }) rfl (fun K hK => ?_) ?_
          · go_simp
            refine hK.out _ _ (fun _ => ?_) (fun hE => ?_)
            · exact hQ.out _ (by repeat (first | (with_reducible assumption) | (with_reducible exact Keeps.refl _ _) | (with_reducible refine Keeps.drewN ?_ _) | (with_reducible refine Keeps.drew ?_) | with_reducible refine Keeps.setCell ?_ (by first | (intro _; exact rfl) | (intro _; exact Or.inl rfl) | (intro _; exact Or.inr rfl) | (simp; done) | (simp; omega)) _ | (with_reducible refine Keeps.alloc ?_ _)))
            have hS := hE (by kernel_rfl)
            clear hK K hE
            try simp only [Act.put, List.setIfInBounds_toArray, List.set_cons_zero, List.set_cons_succ]
            refine wpAnyT_ready (rs := [9]) (by kernel_rfl) rfl ?_
            refine AllT.cons (o := { dst := some 9, op := Op.assign (Operand.tmp 31), type := 28, pos := "types.go:703", after := #[⟨7, .data⟩, ⟨8, .chain⟩, ⟨0, .phase⟩, ⟨1, .phase⟩, ⟨2, .phase⟩, ⟨3, .phase⟩, ⟨4, .phase⟩, ⟨5, .phase⟩, ⟨6, .phase⟩, ⟨7, .phase⟩, ⟨8, .phase⟩], guard := none }) rfl (fun K hK => ?_) ?_
            · go_simp
              refine hK.out _ _ (fun _ => ?_) (fun hE => ?_)
              · exact hQ.out _ (by repeat (first | (with_reducible assumption) | (with_reducible exact Keeps.refl _ _) | (with_reducible refine Keeps.drewN ?_ _) | (with_reducible refine Keeps.drew ?_) | with_reducible refine Keeps.setCell ?_ (by first | (intro _; exact rfl) | (intro _; exact Or.inl rfl) | (intro _; exact Or.inr rfl) | (simp; done) | (simp; omega)) _ | (with_reducible refine Keeps.alloc ?_ _)))
              have hS := hE (by kernel_rfl)
              clear hK K hE
              try simp only [Act.put, List.setIfInBounds_toArray, List.set_cons_zero, List.set_cons_succ]
              refine wpAnyT_done (by kernel_rfl) ?_ _
              refine NoPanic.normal ?_
              have HKR := Lib.hid hkR
              clear hkR hk5 hsu hkq hkQ hS
              go_wp2_with fail
              go_meet
              exact ⟨rfl, HKR.out, Ar, cr, rfl⟩
            exact AllT.nil
          exact AllT.nil
        exact AllT.nil
      exact AllT.nil
    refine AllT.cons (o := { dst := some 28, op := Op.buildSlice 36 2 #[(0, Operand.tmp 26), (1, Operand.tmp 27)], type := 36, pos := "types.go:703", after := #[⟨1, .data⟩, ⟨2, .data⟩], guard := none }) rfl (fun K hK => ?_) ?_
    · go_simp
      refine hK.out _ _ (fun _ => ?_) (fun hE => ?_)
      · exact hQ.out _ (by repeat (first | (with_reducible assumption) | (with_reducible exact Keeps.refl _ _) | (with_reducible refine Keeps.drewN ?_ _) | (with_reducible refine Keeps.drew ?_) | with_reducible refine Keeps.setCell ?_ (by first | (intro _; exact rfl) | (intro _; exact Or.inl rfl) | (intro _; exact Or.inr rfl) | (simp; done) | (simp; omega)) _ | (with_reducible refine Keeps.alloc ?_ _)))
      have hS := hE (by kernel_rfl)
      clear hK K hE
      try simp only [Act.put, List.setIfInBounds_toArray, List.set_cons_zero, List.set_cons_succ]
      refine wpAnyT_ready (rs := [0]) (by kernel_rfl) rfl ?_
      refine AllT.cons (o := { dst := some 25, op := Op.call { callee := Callee.value (Operand.func 8), args := #[Operand.const (Value.int IntKind.i64 1)], argTypes := #[3] }, type := 31, pos := "types.go:703", after := #[], guard := none }) rfl (fun K hK => ?_) ?_
      · (go_simp; go_at_call 8; with_reducible refine (HCl.out _ (by repeat (first | (with_reducible assumption) | (with_reducible exact Keeps.refl _ _) | (with_reducible refine Keeps.drewN ?_ _) | (with_reducible refine Keeps.drew ?_) | with_reducible refine Keeps.setCell ?_ (by first | (intro _; exact rfl) | (intro _; exact Or.inl rfl) | (intro _; exact Or.inr rfl) | (simp; done) | (simp; omega)) _ | (with_reducible refine Keeps.alloc ?_ _)))).mono ?_; rintro e wq ⟨hkq, u, rfl, hsu⟩; go_wp2_with fail; have hkQ := Keeps.trans (show Keeps (fun _ => False) W0 _ from (by repeat (first | (with_reducible assumption) | (with_reducible exact Keeps.refl _ _) | (with_reducible refine Keeps.drewN ?_ _) | (with_reducible refine Keeps.drew ?_) | with_reducible refine Keeps.setCell ?_ (by first | (intro _; exact rfl) | (intro _; exact Or.inl rfl) | (intro _; exact Or.inr rfl) | (simp; done) | (simp; omega)) _ | (with_reducible refine Keeps.alloc ?_ _)))) hkq (fun _ _ h => h))
        refine hK.out _ _ (fun _ => ?_) (fun hE => ?_)
        · exact hQ.out _ (by repeat (first | (with_reducible assumption) | (with_reducible exact Keeps.refl _ _) | (with_reducible refine Keeps.drewN ?_ _) | (with_reducible refine Keeps.drew ?_) | with_reducible refine Keeps.setCell ?_ (by first | (intro _; exact rfl) | (intro _; exact Or.inl rfl) | (intro _; exact Or.inr rfl) | (simp; done) | (simp; omega)) _ | (with_reducible refine Keeps.alloc ?_ _)))
        have hS := hE (by kernel_rfl)
        clear hK K hE
        try simp only [Act.put, List.setIfInBounds_toArray, List.set_cons_zero, List.set_cons_succ]
        refine wpAnyT_ready (rs := [4]) (by kernel_rfl) rfl ?_
        refine AllT.cons (o := { dst := some 29, op := Op.call { callee := Callee.value (Operand.func 18), args := #[Operand.tmp 25, Operand.const (Value.slice none 0 0), Operand.tmp 28], argTypes := #[31, 45, 36] }, type := 54, pos := "types.go:703", after := #[⟨0, .data⟩, ⟨3, .data⟩, ⟨0, .chain⟩], guard := none }) rfl (fun K hK => ?_) ?_
        · (go_simp; go_at_call 18; with_reducible refine (HRd.out _ _ _ (by repeat (first | (with_reducible assumption) | (with_reducible exact Keeps.refl _ _) | (with_reducible refine Keeps.drewN ?_ _) | (with_reducible refine Keeps.drew ?_) | with_reducible refine Keeps.setCell ?_ (by first | (intro _; exact rfl) | (intro _; exact Or.inl rfl) | (intro _; exact Or.inr rfl) | (simp; done) | (simp; omega)) _ | (with_reducible refine Keeps.alloc ?_ _))) (by first | exact hsu | exact (hsu.keeps ((Keeps.refl (fun _ => False) _).alloc _) (fun _ _ h => h)).mono (fun b hb => by simp; omega)) (by first | exact Blk.new _ _ [_, _, _, _, _, _, _, _, _, _] | exact (Blk.new _ _ [_, _, _, _, _, _, _, _, _, _]).keeps ((Keeps.drew (Keeps.refl (fun _ => False) _)).trans hkq (fun _ _ h => h)) (fun h => h))).mono ?_; rintro e w5 ⟨hk5, Ar, cr, rfl⟩; go_wp2_with fail; have hkR := Keeps.trans (show Keeps (fun _ => False) W0 _ from (by repeat (first | (with_reducible assumption) | (with_reducible exact Keeps.refl _ _) | (with_reducible refine Keeps.drewN ?_ _) | (with_reducible refine Keeps.drew ?_) | with_reducible refine Keeps.setCell ?_ (by first | (intro _; exact rfl) | (intro _; exact Or.inl rfl) | (intro _; exact Or.inr rfl) | (simp; done) | (simp; omega)) _ | (with_reducible refine Keeps.alloc ?_ _)))) hk5 (fun _ _ h => h))
          refine hK.out _ _ (fun _ => ?_) (fun hE => ?_)
          · exact hQ.out _ (by repeat (first | (with_reducible assumption) | (with_reducible exact Keeps.refl _ _) | (with_reducible refine Keeps.drewN ?_ _) | (with_reducible refine Keeps.drew ?_) | with_reducible refine Keeps.setCell ?_ (by first | (intro _; exact rfl) | (intro _; exact Or.inl rfl) | (intro _; exact Or.inr rfl) | (simp; done) | (simp; omega)) _ | (with_reducible refine Keeps.alloc ?_ _)))
          have hS := hE (by kernel_rfl)
          clear hK K hE
          try simp only [Act.put, List.setIfInBounds_toArray, List.set_cons_zero, List.set_cons_succ]
          refine wpAnyT_pure (i := 5) (oi := { dst := some 24, op := Op.move (Operand.tmp 29), type := 54, pos := "types.go:703", after := #[⟨4, .data⟩], guard := none }) (v := ?v2_5_6) rfl (by kernel_rfl) (fun _ _ _ h => h) (Or.inl ⟨by rfl, ?y2_5_6⟩) (fun _ => hS) ?_
          case y2_5_6 => (intro w hSw; go_simp; try with_reducible rfl)
          try simp only [Act.put, List.setIfInBounds_toArray, List.set_cons_zero, List.set_cons_succ]
          refine wpAnyT_pure (i := 6) (oi := { dst := some 30, op := Op.extract (Operand.tmp 24) 0, type := 36, pos := "types.go:703", after := #[⟨5, .data⟩], guard := none }) (v := ?v2_6_7) rfl (by kernel_rfl) (fun _ _ _ h => h) (Or.inl ⟨by rfl, ?y2_6_7⟩) (fun _ => hS) ?_
          case y2_6_7 => (intro w hSw; go_simp; try with_reducible rfl)
          try simp only [Act.put, List.setIfInBounds_toArray, List.set_cons_zero, List.set_cons_succ]
          refine wpAnyT_pure (i := 7) (oi := { dst := some 31, op := Op.extract (Operand.tmp 24) 1, type := 28, pos := "types.go:703", after := #[⟨5, .data⟩, ⟨8, .gcOnly .lateStores⟩], guard := none }) (v := ?v2_7_8) rfl (by kernel_rfl) (fun _ _ _ h => h) (Or.inl ⟨by rfl, ?y2_7_8⟩) (fun _ => hS) ?_
          case y2_7_8 => (intro w hSw; go_simp; try with_reducible rfl)
          try simp only [Act.put, List.setIfInBounds_toArray, List.set_cons_zero, List.set_cons_succ]
          refine wpAnyT_ready (rs := [8]) (by kernel_rfl) rfl ?_
          refine AllT.cons (o := { dst := some 8, op := Op.assign (Operand.tmp 30), type := 36, pos := "types.go:703", after := #[⟨6, .data⟩, ⟨4, .chain⟩, ⟨0, .phase⟩, ⟨1, .phase⟩, ⟨2, .phase⟩, ⟨3, .phase⟩, ⟨4, .phase⟩, ⟨5, .phase⟩, ⟨6, .phase⟩, ⟨7, .textOnly .lateStores⟩], guard := none }) rfl (fun K hK => ?_) ?_
          · go_simp
            refine hK.out _ _ (fun _ => ?_) (fun hE => ?_)
            · exact hQ.out _ (by repeat (first | (with_reducible assumption) | (with_reducible exact Keeps.refl _ _) | (with_reducible refine Keeps.drewN ?_ _) | (with_reducible refine Keeps.drew ?_) | with_reducible refine Keeps.setCell ?_ (by first | (intro _; exact rfl) | (intro _; exact Or.inl rfl) | (intro _; exact Or.inr rfl) | (simp; done) | (simp; omega)) _ | (with_reducible refine Keeps.alloc ?_ _)))
            have hS := hE (by kernel_rfl)
            clear hK K hE
            try simp only [Act.put, List.setIfInBounds_toArray, List.set_cons_zero, List.set_cons_succ]
            refine wpAnyT_ready (rs := [9]) (by kernel_rfl) rfl ?_
            refine AllT.cons (o := { dst := some 9, op := Op.assign (Operand.tmp 31), type := 28, pos := "types.go:703", after := #[⟨7, .data⟩, ⟨8, .chain⟩, ⟨0, .phase⟩, ⟨1, .phase⟩, ⟨2, .phase⟩, ⟨3, .phase⟩, ⟨4, .phase⟩, ⟨5, .phase⟩, ⟨6, .phase⟩, ⟨7, .phase⟩, ⟨8, .phase⟩], guard := none }) rfl (fun K hK => ?_) ?_
            · go_simp
              refine hK.out _ _ (fun _ => ?_) (fun hE => ?_)
              · exact hQ.out _ (by repeat (first | (with_reducible assumption) | (with_reducible exact Keeps.refl _ _) | (with_reducible refine Keeps.drewN ?_ _) | (with_reducible refine Keeps.drew ?_) | with_reducible refine Keeps.setCell ?_ (by first | (intro _; exact rfl) | (intro _; exact Or.inl rfl) | (intro _; exact Or.inr rfl) | (simp; done) | (simp; omega)) _ | (with_reducible refine Keeps.alloc ?_ _)))
              have hS := hE (by kernel_rfl)
              clear hK K hE
              try simp only [Act.put, List.setIfInBounds_toArray, List.set_cons_zero, List.set_cons_succ]
              refine wpAnyT_done (by kernel_rfl) ?_ _
              refine NoPanic.normal ?_
              have HKR := Lib.hid hkR
              clear hkR hk5 hsu hkq hkQ hS
              go_wp2_with fail
              go_meet
              exact ⟨rfl, HKR.out, Ar, cr, rfl⟩
            exact AllT.nil
          exact AllT.nil
        exact AllT.nil
      exact AllT.nil
    exact AllT.nil
  case rest =>
    obtain ⟨rfl, hk, Av, cv, rfl⟩ := hcut
    have hkW := HK0.out.trans hk (fun _ _ h => h)
    obtain ⟨Ap, cp, rfl, hpc, hpm, _⟩ := HVp.out.form
    have hp63 : preds.length ≤ 9223372036854775807 := by unfold maxLen at hpm; omega
    obtain ⟨er, out, hred⟩ := reduceS_total l s preds
    have hsW := hkW.size
    have HVl1 := Lib.hid ((HVl.out.keeps hkW (fun _ _ h => h)).mono (G := fun b => b < W.heap.size) (fun _ h => h))
    have HVi1 := Lib.hid ((HVi.out.keeps hkW (fun _ _ h => h)).mono (G := fun b => b < W.heap.size) (fun _ h => h))
    have HVp1 := Lib.hid ((HVp.out.keeps hkW (fun _ _ h => h)).mono (G := fun b => b < W.heap.size) (fun _ h => h))
    have HZ1 := Lib.hid (HZ.out.keeps hkW (fun h => h))
    have HRd2 := Lib.hid (Reduce_any l s preds HFit.out vl vi _ (fun b => b < W.heap.size) wc HVl1.out HVi1.out HVp1.out (fun b hb => by omega) HZ1.out er out hred)
    have HRed := Lib.hid hred
    have HKW := Lib.hid hkW
    clear hk hkW hred hpc hpm hsW HCl HRd hQ HB7 HK0 HW0 HBn
    go_wp2_with fail
    with_reducible refine HRd2.out.mono ?_
    rintro e w2 ⟨hk2, ur, rfl, hsr⟩
    obtain ⟨Ar, cr, rfl, hrc, hrm, _⟩ := hsr.form
    have hok := reduced_ok HRed.out
    by_cases he : er = 0
    · have heb : (er != 0) = false := by rw [he]; rfl
      subst he
      have hout := hok.2 rfl
      have hol : out.length ≤ 4096 := hout.1
      have hk := HKW.out.trans hk2 (fun _ _ h => h)
      have HSr := Lib.hid hsr
      have HOut := Lib.hid hout.2
      have HK2 := Lib.hid hk
      have hs2 := hk2.size
      have hsW := HKW.out.size
      have HVl2 := Lib.hid ((HVl1.out.keeps hk2 (fun _ _ h => h)).mono (G := fun b => b < w2.heap.size) (fun b hb => by omega))
      have HVi2 := Lib.hid ((HVi1.out.keeps hk2 (fun _ _ h => h)).mono (G := fun b => b < w2.heap.size) (fun b hb => by omega))
      have HVp2 := Lib.hid ((HVp1.out.keeps hk2 (fun _ _ h => h)).mono (G := fun b => b < w2.heap.size) (fun b hb => by omega))
      have HZ2 := Lib.hid (HZ1.out.keeps hk2 (fun h => h))
      clear hout hok hk2 hsr hrc hrm hk hs2 hsW HVl1 HVi1 HVp1 HZ1 HRd2 HVl HVi HVp HZ
      go_wp2_with fail
      go_loopw [53] (fun i wr => ∃ j : Nat, j ≤ out.length ∧ .int .i64 (j : Int) = i ∧ Keeps (fun _ => False) w2 wr) (fun i _ => out.length - (intOf i).toNat)
      case atStart => exact ⟨0, Nat.zero_le _, rfl, Keeps.refl _ _⟩
      case round =>
        obtain ⟨j, hj, rfl, hkr⟩ := hrel
        obtain ⟨wx, hwx⟩ : ∃ wx, wx = wr := ⟨_, rfl⟩
        rw [← hwx] at hkr ⊢
        clear hwx
        by_cases hlt : j < out.length
        · obtain ⟨g, off, v1, hadr, hg, c0, c1, c2, c3, c4, hcs, hTh⟩ := Pred.get (HSr.out.keeps hkr (fun _ _ h => h)) hlt
          obtain rfl := hadr
          obtain ⟨A1, q1, rfl, _⟩ := hTh.form
          have hk0 : out[j].ty.kind = 0 := HOut.out _ (List.getElem_mem hlt)
          obtain ⟨h, hh⟩ : ∃ h, out[j] = h := ⟨_, rfl⟩
          rw [hh] at c0 c1 c2 c3 c4 hcs hTh hk0
          rw [hk0] at c1
          have HKr := Lib.hid hkr
          have hjl : (j : Int) < (out.length : Int) := by omega
          have hj0 : (0 : Int) ≤ (j : Int) := by omega
          clear hkr hh hTh hcs hk0
          go_wp2_with fail
          go_roundw
          case rel => exact ⟨j + 1, by omega, by go_num, HKr.out.alloc _⟩
          case measure => simp [intOf]; omega
        · have hjl : ¬ (j : Int) < (out.length : Int) := by omega
          have HKr := Lib.hid hkr
          clear hkr hlt
          go_wp2_with fail
          clear hjl hj
          go_loopw [64] (fun i wr => ∃ j : Nat, j ≤ preds.length ∧ .int .i64 (j : Int) = i ∧ Keeps (fun _ => False) w2 wr ∧ Hid (∀ p ∈ preds.take j, (findC l p.cls).isSome = true)) (fun i _ => preds.length - (intOf i).toNat)
          case atStart => exact ⟨0, Nat.zero_le _, rfl, HKr.out, (fun p hp => by simp at hp)⟩
          case round =>
            clear HKr
            obtain ⟨k, hk, rfl, hkr, hkn⟩ := hrel
            obtain ⟨wy, hwy⟩ : ∃ wy, wy = wr := ⟨_, rfl⟩
            rw [← hwy] at hkr ⊢
            clear hwy
            have hsy := hkr.size
            by_cases hlt : k < preds.length
            · obtain ⟨g, off, v1, hadr, hg, c0, c1, c2, c3, c4, hcs, hTh⟩ := Pred.get (HVp2.out.keeps hkr (fun _ _ h => h)) hlt
              obtain rfl := hadr
              obtain ⟨A1, q1, rfl, _⟩ := hTh.form
              have htk : preds.take (k + 1) = preds.take k ++ [preds[k]] := by rw [List.take_succ_eq_append_getElem hlt]
              obtain ⟨h, hh⟩ : ∃ h, preds[k] = h := ⟨_, rfl⟩
              rw [hh] at c0 c1 c2 c3 c4 hcs hTh htk
              obtain ⟨b12, hb12⟩ : ∃ b12, wy.heap.size = b12 := ⟨_, rfl⟩
              obtain ⟨W12, hW12⟩ : ∃ W12, wy.alloc (.cells #[.string h.cls, .int .i64 h.ty.kind, .string h.ty.name, .int .i64 h.ty.var, .slice A1 h.ty.args.length q1] 35) = W12 := ⟨_, rfl⟩
              have hk12 : Keeps (fun _ => False) wy W12 := by rw [← hW12]; exact (Keeps.refl _ _).alloc _
              have hB12 : Blk W12 b12 35 [.string h.cls, .int .i64 h.ty.kind, .string h.ty.name, .int .i64 h.ty.var, .slice A1 h.ty.args.length q1] := by rw [← hW12, ← hb12]; exact Blk.new wy _ [_, _, _, _, _]
              have hkW := hkr.trans hk12 (fun _ _ h => h)
              have hsw := hkW.size
              have HFi := Lib.hid (find_any l h.cls _ (fun b => b < w2.heap.size) W12 (HVl2.out.keeps hkW (fun _ _ h => h)) (fun b hb => by omega))
              have a0 := hB12.cell (i := 0) rfl
              have HTk := Lib.hid htk
              have HKn := Lib.hid hkn
              have HKW12 := Lib.hid hkW
              have HW12 := Lib.hid hW12
              have HBn12 := Lib.hid hb12
              have hjl : (k : Int) < (preds.length : Int) := by omega
              have hj0 : (0 : Int) ≤ (k : Int) := by omega
              clear hkr hh hTh hcs hk12 hB12 hkW hsw hW12 hb12 htk hkn hsy
              go_upto_region 17 with (fail)
              rw [HW12.out, HBn12.out]
              go_wp2_with fail
              with_reducible refine HFi.out.mono ?_
              rintro e w7 ⟨hk7, (⟨cc, A3, q3, A4, n4, q4, hfc, rfl, _⟩ | ⟨hfc, rfl⟩)⟩
              · have HK7 := Lib.hid (HKW12.out.trans hk7 (fun _ _ h => h))
                have HN : Hid (∀ p ∈ preds.take (k + 1), (findC l p.cls).isSome = true) := fun p hp => by
                  rw [HTk.out] at hp
                  rcases List.mem_append.1 hp with hp | hp
                  · exact HKn.out.out p hp
                  · rw [List.mem_singleton.1 hp, hfc]; rfl
                clear hk7 hfc a0
                go_wp2_with fail
                go_roundw
                case rel => exact ⟨k + 1, by omega, by go_num, HK7.out.alloc _, HN.out⟩
                case measure => simp [intOf]; omega
              · have HP : Hid (Below W.heap.size W w7) := ((HK2.out.trans HKW12.out (fun _ _ h => h)).trans hk7 (fun _ _ h => h)).below (fun _ h => h.elim) (Nat.le_refl _)
                clear hk7 hfc a0
                go_wp2_with fail
                go_ret
                exact ⟨rfl, HP.out.alloc (by have := HK2.out.size; have := HKW12.out.size; have := HP.out.size; omega) _⟩
            · have hkn2 : ∀ p ∈ preds, (findC l p.cls).isSome = true := fun p hp => hkn.out p (by rw [List.take_of_length_le (by omega)]; exact hp)
              have HEn := Lib.hid (reduced_entails HRed.out hkn2)
              have hjl : ¬ (k : Int) < (preds.length : Int) := by omega
              have HKr := Lib.hid hkr
              clear hkr hlt hkn hkn2 hsy
              go_wp2_with fail
              clear hjl hk
              go_loopw [80] (fun i wr => ∃ j : Nat, j ≤ preds.length ∧ .int .i64 (j : Int) = i ∧ Keeps (fun _ => False) w2 wr) (fun i _ => preds.length - (intOf i).toNat)
              case atStart => exact ⟨0, Nat.zero_le _, rfl, HKr.out⟩
              case round =>
                clear HKr
                obtain ⟨m, hm, rfl, hkr⟩ := hrel
                obtain ⟨wz, hwz⟩ : ∃ wz, wz = wr := ⟨_, rfl⟩
                rw [← hwz] at hkr ⊢
                clear hwz
                by_cases hlt : m < preds.length
                · obtain ⟨g, off, v1, hadr, hg, c0, c1, c2, c3, c4, hcs, hTh⟩ := Pred.get (HVp2.out.keeps hkr (fun _ _ h => h)) hlt
                  obtain rfl := hadr
                  obtain ⟨A1, q1, rfl, _⟩ := hTh.form
                  obtain ⟨pf, hpf⟩ := HEn.out _ (List.getElem_mem hlt)
                  obtain ⟨h, hh⟩ : ∃ h, preds[m] = h := ⟨_, rfl⟩
                  rw [hh] at c0 c1 c2 c3 c4 hcs hTh hpf
                  obtain ⟨b12, hb12⟩ : ∃ b12, wz.heap.size = b12 := ⟨_, rfl⟩
                  obtain ⟨W12, hW12⟩ : ∃ W12, wz.alloc (.cells #[.string h.cls, .int .i64 h.ty.kind, .string h.ty.name, .int .i64 h.ty.var, .slice A1 h.ty.args.length q1] 35) = W12 := ⟨_, rfl⟩
                  have hk12 : Keeps (fun _ => False) wz W12 := by rw [← hW12]; exact (Keeps.refl _ _).alloc _
                  have hB12 : Blk W12 b12 35 [.string h.cls, .int .i64 h.ty.kind, .string h.ty.name, .int .i64 h.ty.var, .slice A1 h.ty.args.length q1] := by rw [← hW12, ← hb12]; exact Blk.new wz _ [_, _, _, _, _]
                  have hkW := hkr.trans hk12 (fun _ _ h => h)
                  have hsw := hkW.size
                  have HEnt := Lib.hid (Entail_any l s out h (l.length + 1) 402 HFit.out vl vi _ (fun b => b < w2.heap.size) W12 A1 q1 (HVl2.out.keeps hkW (fun _ _ h => h)) (HVi2.out.keeps hkW (fun _ _ h => h)) (HSr.out.keeps hkW (fun _ _ h => h)) (fun b hb => by omega) (hTh.keeps hk12 (fun _ _ h => h)) hcs (HZ2.out.keeps hkW (fun h => h)) pf 0 hpf)
                  have a0 := hB12.cell (i := 0) rfl
                  have a1 := hB12.cell (i := 1) rfl
                  have a2 := hB12.cell (i := 2) rfl
                  have a3 := hB12.cell (i := 3) rfl
                  have a4 := hB12.cell (i := 4) rfl
                  have HKW12 := Lib.hid hkW
                  have HW12 := Lib.hid hW12
                  have HBn12 := Lib.hid hb12
                  have hjl : (m : Int) < (preds.length : Int) := by omega
                  have hj0 : (0 : Int) ≤ (m : Int) := by omega
                  clear hkr hh hTh hcs hk12 hB12 hkW hsw hW12 hb12 hpf
                  go_upto_region 24 with (fail)
                  rw [HW12.out, HBn12.out]
                  go_wp2_with fail
                  with_reducible refine HEnt.out.mono ?_
                  rintro e w9 ⟨hk9, A9, c9, rfl, _⟩
                  have HK9 := Lib.hid (HKW12.out.trans hk9 (fun _ _ h => h))
                  clear hk9 a0 a1 a2 a3 a4
                  go_wp2_with fail
                  go_roundw
                  case rel => exact ⟨m + 1, by omega, by go_num, HK9.out.alloc _⟩
                  case measure => simp [intOf]; omega
                · have hjl : ¬ (m : Int) < (preds.length : Int) := by omega
                  have HP : Hid (Below W.heap.size W wz) := (HK2.out.trans hkr (fun _ _ h => h)).below (fun _ h => h.elim) (Nat.le_refl _)
                  clear hkr hlt
                  go_wp2_with fail
                  go_ret
                  exact ⟨rfl, HP.out⟩
    · have heb : (er != 0) = true := by rw [bne_iff_ne]; exact he
      have hon : out = [] := hok.1 he
      subst hon
      have HP : Hid (Below W.heap.size W w2) := ((HKW.out.trans hk2 (fun _ _ h => h)).below (fun _ h => h.elim) (Nat.le_refl _))
      clear he hok hk2 hsr hrc hrm
      go_wp2_with fail
      go_ret
      exact ⟨rfl, HP.out⟩

theorem own : ownKnob Tryd.prog.godebug = none := by kernel_rfl
theorem gSizes : Tryd.prog.globalNamed "provenance/unify.sizes" = some 0 := by kernel_rfl
theorem szs_of_laid {W : World} (h : laidMetH Tryd.prog Rows.classesReducedRow.laid W) : Szs W := by
  have h1 := h.filter (fun x => x.1 == "provenance/unify.sizes")
  have e1 : Rows.classesReducedRow.laid.filter (fun x => x.1 == "provenance/unify.sizes") = [("provenance/unify.sizes", Lib.tabData .i64 [0, -1, 3, 1, 0, 2])] := by kernel_rfl
  have h2 : laidMetH Tryd.prog [("provenance/unify.sizes", Lib.tabData .i64 [0, -1, 3, 1, 0, 2])] W := by rw [e1] at h1; exact h1
  rw [MakeChecks.laidMetH_plain _ _ _ (by kernel_rfl)] at h2
  have ht := Lib.tabIs_of_head gSizes (by kernel_rfl) Tryd.underlying84 Tryd.underlying3 (by kernel_rfl) (by kernel_rfl) h2
  unfold Lib.TabIs at ht
  exact ⟨by rw [World.var?_cell gSizes ht]; rfl, by rw [World.var?_cell gSizes ht]; rfl, by rw [World.var?_cell gSizes ht]; rfl, by rw [World.var?_cell gSizes ht]; rfl, by rw [World.var?_cell gSizes ht]; rfl, by rw [World.var?_cell gSizes ht]; rfl⟩

theorem laid : laidOutB Tryd.prog = true := by kernel_rfl

set_option maxRecDepth 100000 in
theorem lifted (os : Os) (started : os.Started) (H : Type) (enc : TypeId × Value → H) :
    ReturnsInHanded {} Tryd.checked os 6 .any (fun w args => (Rows.classesReducedSpec.pre enc Tryd.prog Tryd.f6 [] false w args ∧ laidMetH Tryd.prog Rows.classesReducedRow.laid w) ∧ sizedMet enc Tryd.prog Tryd.f6 (OpenSpec.ofChange Rows.classesReducedSpec) false w args)
      (Rows.classesReducedSpec.post enc Tryd.prog Tryd.f6 false true false false) := by
  refine handed_shaped_laid (C := Tryd.checked) (L := Rows.classesReducedRow.laid) own started (by kernel_rfl) Tryd.func6
    (ChangeSpec.witness_shaped (enc := enc) (C := Tryd.checked) (os := os) (X := fun w _ => laidMetH Tryd.prog Rows.classesReducedRow.laid w) false (World.laidAll Tryd.prog os Rows.classesReducedRow.laid) #[.slice none 0 0, .slice none 0 0, .slice none 0 0] 8 (World.laidAll_os _ _ _)
      (World.shaped_of_ZipB (by kernel_rfl) (by kernel_rfl)) (by kernel_rfl) (by kernel_rfl) (by kernel_rfl)
      (by rw [MakeChecks.laidMetH_plain _ _ _ (by kernel_rfl)]; exact laidMet_laidAll _ (by kernel_rfl) (by kernel_rfl))) ?_
  intro W base args ds gs before hval0 hW hsz0 _ hlaid
  have hz := szs_of_laid hlaid
  have hval : ∀ (j : Nat) t v, Tryd.f6.params[j]? = some t → args[j]? = some v → Value.okWide Tryd.prog W .any base t v := hval0
  have hW' := hW
  obtain ⟨p, q, hA0, hV, hbef, hfz, hnd⟩ := hW
  have hA : DataW.TrodAll enc Tryd.prog W 0 (fun _ => true) true Tryd.f6.params.toList args.toList ds p := hA0
  rw [Tryd.params6] at hA hval
  obtain ⟨v0, vs0, d0, ds0, p0, q0, hargs, hds, rfl, h0, r0⟩ := trodAll_cons hA
  obtain ⟨v1, vs1, d1, ds1, p1, q1, rfl, rfl, rfl, h1, r1⟩ := trodAll_cons r0
  obtain ⟨v2, vs2, d2, ds2, p2, q2, rfl, rfl, rfl, h2, r2⟩ := trodAll_cons r1
  obtain ⟨rfl, rfl, rfl⟩ := trodAll_nil r2
  obtain rfl : args = #[v0, v1, v2] := by cases args; simp_all
  obtain ⟨rfl, _⟩ := trodVars_none hV
  subst hds
  obtain ⟨a0, s0⟩ := sl_of_arg (f := ClassSig.d) (k := 3) Tryd.underlying31 (by kernel_rfl) (by decide) (fun _ _ _ h => ClassSig.of_trod h) (hval 0 31 v0 rfl rfl) h0
  have hsz : (DataW.weightsEach Tryd.prog (Tryd.f6.params.toList ++ Rows.classesReducedSpec.plain.varTypes Tryd.prog) _).all (· ≤ reachBytes) = true := hsz0
  rw [Tryd.params6] at hsz
  obtain ⟨a1, s1, b1⟩ := insts_of_arg (hval 1 45 v1 rfl rfl) h1 (weight_at hsz (j := 1) rfl rfl)
  obtain ⟨a2, s2⟩ := sl_of_arg (f := Pred.d) (k := 5) Tryd.underlying36 (by kernel_rfl) (by decide) (fun _ _ _ h => Pred.of_trod h) (hval 2 36 v2 rfl rfl) h2
  refine (walk a0 a1 a2 (fun x hx => b1 x hx) v0 v1 v2 W s0 s1 s2 hz).mono fun e W' ⟨he, hb⟩ => ?_
  subst he
  exact ⟨_, rfl, law_post laid (by kernel_rfl) rfl Tryd.underlying4 rfl rfl rfl rfl hW' hb⟩

theorem over : Rows.classesReducedRow.holds Tryd.pinned (OpenSpec.ofChange Rows.classesReducedSpec) :=
  OpenClaim.holds_of_wide 6 Tryd.f6 rfl rfl rfl rfl rfl rfl rfl ⟨rfl, rfl, rfl, rfl, rfl⟩ rfl rfl rfl rfl rfl (by kernel_rfl) Tryd.func6 (by kernel_rfl)
    (of_decide_eq_true (by kernel_rfl)) (by unfold Func.isWrapper; first | (rw [if_pos (by decide +kernel)]; kernel_rfl) | (rw [if_neg (by decide +kernel)]; exact ⟨rfl, rfl⟩))
    (fun os started H enc _ => lifted os started H enc)

theorem proved : Rows.ClassesReducedCardSaid :=
  Claim7.holds_tied_plain_at .later [] [.data, .data, .data, .data] true Rows.classesReducedCard.stood.harness false over (fun _ h => by cases h) (by kernel_rfl) (fun _ h => by cases h) classesReduced_row_tie rfl ⟨rfl, rfl⟩ (by kernel_rfl) rfl
    (fun f fn hf hfn => by
      obtain rfl : f = 6 := Option.some.inj ((show Tryd.prog.funcNamed Tryd.f6.name = some 6 by kernel_rfl).symm.trans hf) |>.symm
      obtain rfl : fn = Tryd.f6 := (Option.some.inj (Tryd.func6.symm.trans hfn)).symm
      exact ⟨by kernel_rfl, fun j t ht => by
        rw [Tryd.params6] at ht
        have hm : t ∈ [31, 45, 36] := by simpa using Array.mem_of_getElem? ht
        have hall : ([31, 45, 36].all fun u => !Tryd.prog.wantsStandIn u) = true := by kernel_rfl
        exact (show Tryd.prog.wantsStandIn t = false by simpa using List.all_eq_true.1 hall t hm)⟩)
    (by kernel_rfl)
#print axioms proved
end Go.Proofs.YtdljlpogljjldaaDoor.classesReduced

