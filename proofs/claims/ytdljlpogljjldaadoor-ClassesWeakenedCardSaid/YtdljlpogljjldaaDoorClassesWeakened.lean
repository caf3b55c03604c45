/- ClassesWeakened. -/
import Derived.Test.YtdljlpogljjldaaDoorCList
import Derived.Test.YtdljlpogljjldaaDoorCPrvW
import Derived.Test.YtdljlpogljjldaaDoorCSized
import Derived.Test.YtdljlpogljjldaaDoorHanded
import Derived.Lib.LaidTab
import Derived.LaidSub
namespace Go.Proofs.YtdljlpogljjldaaDoor.classesWeakened
open Go.RowKit Go.Shelf Go.ChangeShapes Go.WideShapes Go.Sort Go.Proofs.YtdljlpogljjldaaDoor

def c0P : Pred := ⟨⟨#[67, 48]⟩, numT⟩
theorem first_ent : entailS (clsList 1) [] [] c0P 2 402 = some (zPf, 11) := by kernel_rfl
theorem name_world {K : Act → World → Prop} {a : Act} {w : World} (h : ∀ w', w' = w → K a w') : K a w := h w rfl
theorem blk_of_alloc {V w X : World} {t : TypeId} {cs : List Value} (h : w = X.alloc (.cells cs.toArray t)) (hk : Keeps (fun _ => False) V X) : Blk w X.heap.size t cs ∧ Keeps (fun _ => False) X w ∧ V.heap.size ≤ X.heap.size := by
  subst h
  exact ⟨Blk.new X t cs, (Keeps.refl _ _).alloc _, hk.size⟩
theorem blk_of_alloc_d {V w X : World} {t : TypeId} {cs : List Value} (h : w = (X.alloc (.cells cs.toArray t)).drew) (hk : Keeps (fun _ => False) V X) : Blk w X.heap.size t cs ∧ Keeps (fun _ => False) X w ∧ V.heap.size ≤ X.heap.size := by
  subst h
  exact ⟨(Blk.new X t cs).drew, ((Keeps.refl _ _).alloc _).drew, hk.size⟩
theorem pf_final {w w' : World} {g : Nat} {p : Pf} {v : Value} (h : PfC w (fun b => b ≠ g ∧ b < w.heap.size) p v) (hk : Keeps (· = g) w w') : PfC w' (fun b => b < w'.heap.size) p v :=
  (h.keeps hk (fun _ hi hx => hi.1 hx)).mono (fun _ hb => Nat.lt_of_lt_of_le hb.2 hk.size)
set_option maxRecDepth 100000 in
set_option maxHeartbeats 16000000 in
theorem walk (l : List ClassSig) (s : List InstSig) (hs : List Pred) (more want : Pred) (hfit : Fits s) (hlen : hs.length * 72 ≤ 140737488351232) (vl vi vh : Value) (Am Aw : Option Addr) (cm cw : Nat) (W : World) (hvl : Sl W (· < W.heap.size) ClassSig.d l vl) (hvi : Sl W (· < W.heap.size) InstSig.d s vi) (hvh : Sl W (· < W.heap.size) Pred.d hs vh)
    (hcm : more.cls.size ≤ maxLen) (hTm : TyC W (· < W.heap.size) more.ty (.slice Am more.ty.args.length cm)) (hcw : want.cls.size ≤ maxLen) (hTw : TyC W (· < W.heap.size) want.ty (.slice Aw want.ty.args.length cw)) (hz : Szs W) :
    Calls Tryd.prog 4 #[vl, vi, vh, .agg #[.string more.cls, .int .i64 more.ty.kind, .string more.ty.name, .int .i64 more.ty.var, .slice Am more.ty.args.length cm], .agg #[.string want.cls, .int .i64 want.ty.kind, .string want.ty.name, .int .i64 want.ty.var, .slice Aw want.ty.args.length cw]] W (fun e w' => e = .returned (.bool true) ∧ Below W.heap.size W w') := by
  obtain ⟨i0, hi0, hz0, hz1, hz2⟩ := info_parts infoPred
  obtain ⟨Ah, ch, rfl, hhc, hhm, _⟩ := hvh.form
  obtain ⟨b8, hb8⟩ : ∃ b8, W.heap.size = b8 := ⟨_, rfl⟩
  obtain ⟨W0, hW0⟩ : ∃ W0, (W.alloc (.cells #[.string more.cls, .int .i64 more.ty.kind, .string more.ty.name, .int .i64 more.ty.var, .slice Am more.ty.args.length cm] 35)).alloc (.cells #[.string want.cls, .int .i64 want.ty.kind, .string want.ty.name, .int .i64 want.ty.var, .slice Aw want.ty.args.length cw] 35) = W0 := ⟨_, rfl⟩
  have hk0 : Keeps (fun _ => False) W W0 := by rw [← hW0]; exact ((Keeps.refl _ _).alloc _).alloc _
  have hB8 : Blk W0 b8 35 [.string more.cls, .int .i64 more.ty.kind, .string more.ty.name, .int .i64 more.ty.var, .slice Am more.ty.args.length cm] := by
    rw [← hW0, ← hb8]; exact (Blk.new W _ [_, _, _, _, _]).alloc _
  have hB9 : Blk W0 (b8 + 1) 35 [.string want.cls, .int .i64 want.ty.kind, .string want.ty.name, .int .i64 want.ty.var, .slice Aw want.ty.args.length cw] := by
    have := Blk.new (W.alloc (.cells #[.string more.cls, .int .i64 more.ty.kind, .string more.ty.name, .int .i64 more.ty.var, .slice Am more.ty.args.length cm] 35)) 35 [.string want.cls, .int .i64 want.ty.kind, .string want.ty.name, .int .i64 want.ty.var, .slice Aw want.ty.args.length cw]
    rw [hW0] at this
    simpa [hb8] using this
  obtain ⟨p1, r1, he1⟩ := entailS_total l s hs want
  obtain ⟨p2, r2, he2⟩ := entailS_total l s (hs ++ [more]) want
  have HCl : Hid (Calls Tryd.prog 8 #[.int .i64 1] W0 (fun e w' => Keeps (fun _ => False) W0 w' ∧ ∃ u, e = .returned u ∧ Sl w' (fun b => b < w'.heap.size) ClassSig.d (clsList 1) u)) := by
    refine (classList_any 1 (by decide) W0).mono ?_
    rintro e w' ⟨h1, u, h2, h3⟩
    exact ⟨h1, u, h2, h3.mono (fun b hb => hb.2)⟩
  have HVl := Lib.hid hvl
  have HVi := Lib.hid hvi
  have HVh := Lib.hid hvh
  have HTm := Lib.hid hTm
  have HTw := Lib.hid hTw
  have HCm := Lib.hid hcm
  have HCw := Lib.hid hcw
  have HZ := Lib.hid hz
  have HFit := Lib.hid hfit
  have HLen := Lib.hid hlen
  have HK0 := Lib.hid hk0
  have HB8 := Lib.hid hB8
  have HB9 := Lib.hid hB9
  have HW0 := Lib.hid hW0
  have HBn := Lib.hid hb8
  have HE1 := Lib.hid he1
  have HE2 := Lib.hid he2
  clear hvl hvi hvh hTm hTw hcm hcw hz hfit hlen hk0 hB8 hB9 hW0 hb8 he1 he2 hhc hhm
  go_enter Tryd.func4, Tryd.ntmps4
  go_upto_region 1 with (fail)
  rw [HW0.out, HBn.out]
  go_wp2_with fail
  with_reducible refine HCl.out.mono ?_
  rintro e w1 ⟨hk1, u, rfl, hsu⟩
  have HNum : Hid (Calls Tryd.prog 9 #[] w1 (fun e w' => e = .returned (.agg #[.int .i64 1, .string ⟨#[80, 114, 101, 108, 117, 100, 101, 46, 73, 110, 116]⟩, .int .i64 0, .slice none 0 0]) ∧ Keeps (fun _ => False) w1 w')) := num_any w1
  have HK1 := Lib.hid hk1
  have HSU := Lib.hid hsu
  clear hk1 hsu HCl
  go_wp2_with fail
  with_reducible refine HNum.out.mono ?_
  rintro e w2 ⟨rfl, hk2⟩
  have hkW := (HK0.out.trans HK1.out (fun _ _ h => h)).trans hk2 (fun _ _ h => h)
  have HEn0 : Hid (Calls Tryd.prog 7 #[u, .slice none 0 0, .slice none 0 0, .agg #[.string ⟨#[67, 48]⟩, .int .i64 1, .string ⟨#[80, 114, 101, 108, 117, 100, 101, 46, 73, 110, 116]⟩, .int .i64 0, .slice none 0 0]] w2 (fun e w' => Keeps (fun _ => False) w2 w' ∧ ∃ A c, e = .returned (.tuple #[.agg #[.int .i64 0, .int .i64 0, .slice A 0 c], .int .i64 11]))) := by
    refine (Entail_any (clsList 1) [] [] c0P 2 402 (fun x hx => by cases hx) u (.slice none 0 0) (.slice none 0 0) (fun b => b < w1.heap.size) w2 none 0 (HSU.out.keeps hk2 (fun _ _ h => h)) Sl.nil_ Sl.nil_ (fun b hb => by have := hk2.size; omega) num_ok (by decide) (HZ.out.keeps hkW (fun h => h)) zPf 11 first_ent).mono ?_
    rintro e w' ⟨h1, A, c, h2, _⟩
    exact ⟨h1, _, _, h2⟩
  have HKW := Lib.hid hkW
  have HK02 := Lib.hid (HK1.out.trans hk2 (fun _ _ h => h))
  clear hk2 hkW HNum
  go_wp2_with fail
  with_reducible refine HEn0.out.mono ?_
  rintro e w3 ⟨hk3, A3, c3, rfl⟩
  obtain ⟨W3, hW3⟩ : ∃ W3, w3.alloc (.cells #[.int .i64 0, .int .i64 0, .slice A3 0 c3] 27) = W3 := ⟨_, rfl⟩
  have hk03 : Keeps (fun _ => False) W0 W3 := by rw [← hW3]; exact (HK02.out.trans hk3 (fun _ _ h => h)).alloc _
  have hkW := HK0.out.trans hk03 (fun _ _ h => h)
  have hsW := hkW.size
  have hx9 := HB9.out.keeps hk03 (fun h => h)
  have x0 := hx9.cell (i := 0) rfl
  have x1 := hx9.cell (i := 1) rfl
  have x2 := hx9.cell (i := 2) rfl
  have x3 := hx9.cell (i := 3) rfl
  have x4 := hx9.cell (i := 4) rfl
  have HEn1 : Hid (Calls Tryd.prog 7 #[vl, vi, .slice Ah hs.length ch, .agg #[.string want.cls, .int .i64 want.ty.kind, .string want.ty.name, .int .i64 want.ty.var, .slice Aw want.ty.args.length cw]] W3 (fun e w' => Keeps (fun _ => False) W3 w' ∧ ∃ A c, e = .returned (.tuple #[.agg #[.int .i64 p1.kind, .int .i64 p1.num, .slice A p1.subs.length c], .int .i64 r1]))) := by
    refine (Entail_any l s hs want (l.length + 1) 402 HFit.out vl vi _ (fun b => b < W.heap.size) W3 Aw cw (HVl.out.keeps hkW (fun _ _ h => h)) (HVi.out.keeps hkW (fun _ _ h => h)) (HVh.out.keeps hkW (fun _ _ h => h)) (fun b hb => by omega) (HTw.out.keeps hkW (fun _ _ h => h)) HCw.out (HZ.out.keeps hkW (fun h => h)) p1 r1 HE1.out).mono ?_
    rintro e w' ⟨h1, A, c, h2, _⟩
    exact ⟨h1, _, _, h2⟩
  have HK03 := Lib.hid hk03
  have HW3 := Lib.hid hW3
  clear hk3 hk03 hkW hsW hx9 hW3 HEn0 HKW HK02
  go_upto_region 2 with (fail)
  rw [HW3.out]
  go_wp2_with fail
  clear x0 x1 x2 x3 x4
  with_reducible refine HEn1.out.mono ?_
  rintro e w4 ⟨hk4, A4, c4, rfl⟩
  obtain ⟨W4, hW4⟩ : ∃ W4, w4.alloc (.cells #[.int .i64 p1.kind, .int .i64 p1.num, .slice A4 p1.subs.length c4] 27) = W4 := ⟨_, rfl⟩
  have hk04 : Keeps (fun _ => False) W0 W4 := by rw [← hW4]; exact (HK03.out.trans hk4 (fun _ _ h => h)).alloc _
  have HK04 := Lib.hid hk04
  have HW4 := Lib.hid hW4
  clear hk4 hk04 hW4 HEn1 HK03
  go_upto_region 5 with (fail)
  rw [HW4.out]
  obtain ⟨B0, hB0⟩ : ∃ B0, W4.heap.size = B0 := ⟨_, rfl⟩
  have hk4W := HK0.out.trans HK04.out (fun _ _ h => h)
  have hsW4 := hk4W.size
  have hb8lt := HB8.out.lt
  have hs04 := HK04.out.size
  have HF5 : Hid (∀ b, b < W.heap.size → b < B0 ∧ b < W4.heap.size) := fun b hb => by omega
  have HCl5 : Hid (∀ X, Keeps (fun _ => False) W4 X → Calls Tryd.prog 13 #[.slice Ah hs.length ch] X (fun e w' => ∃ u xs, e = .returned u ∧ w'.ownsRow B0 35 5 u hs.length xs ∧ RpAll w' (· < W.heap.size) (hs.map Pred.d) xs ∧ Keeps (fun _ => False) X w')) := fun X hk => by
    have hsz := hk.size
    refine (prClone hs _ (· < W.heap.size) X (HVh.out.keeps (hk4W.trans hk (fun _ _ h => h)) (fun _ _ h => h)) (fun b hb => by have := HF5.out b hb; omega) (by have h1 : hs.length * 72 ≤ 140737488351232 := HLen.out; omega)).mono ?_
    rintro e w' ⟨u, xs, he, ho, hx, hb⟩
    exact ⟨u, xs, he, own_base (by omega) ho, hx, Keeps.of_below (X := fun _ => False) hb⟩
  have HMq : Hid (hs.length + 1 ≤ maxLen) := by show _ ≤ _; have h1 : hs.length * 72 ≤ 140737488351232 := HLen.out; unfold maxLen; omega
  have HBq : Hid ((hs.length + 1) * 72 ≤ 140737488355328) := by show _ ≤ _; have h1 : hs.length * 72 ≤ 140737488351232 := HLen.out; omega
  have HWT := Lib.hid (HTm.out.keeps hk4W (fun _ _ h => h))
  have HQ2 : Hid ((∀ b, b < W.heap.size → b < B0 ∧ b < W4.heap.size) ∧ ((∀ b, b < W.heap.size → b < B0 ∧ b < W4.heap.size) ∧ more.cls.size ≤ maxLen)) := ⟨HF5.out, HF5.out, HCm.out⟩
  have hQ : Hid (∀ X, Keeps (fun _ => False) W4 X → (X.cell? ⟨b8, 0, none⟩ = some (.string more.cls) ∧ X.cell? ⟨b8, 1, none⟩ = some (.int .i64 more.ty.kind) ∧ X.cell? ⟨b8, 2, none⟩ = some (.string more.ty.name) ∧ X.cell? ⟨b8, 3, none⟩ = some (.int .i64 more.ty.var) ∧ X.cell? ⟨b8, 4, none⟩ = some (.slice Am more.ty.args.length cm) ∧ X.cell? ⟨b8 + 1, 0, none⟩ = some (.string want.cls) ∧ X.cell? ⟨b8 + 1, 1, none⟩ = some (.int .i64 want.ty.kind) ∧ X.cell? ⟨b8 + 1, 2, none⟩ = some (.string want.ty.name) ∧ X.cell? ⟨b8 + 1, 3, none⟩ = some (.int .i64 want.ty.var) ∧ X.cell? ⟨b8 + 1, 4, none⟩ = some (.slice Aw want.ty.args.length cw))) := fun X hk => by
    have hx := (HB8.out.keeps HK04.out (fun h => h)).keeps hk (fun h => h)
    have hy := (HB9.out.keeps HK04.out (fun h => h)).keeps hk (fun h => h)
    exact ⟨hx.cell (i := 0) rfl, hx.cell (i := 1) rfl, hx.cell (i := 2) rfl, hx.cell (i := 3) rfl, hx.cell (i := 4) rfl, hy.cell (i := 0) rfl, hy.cell (i := 1) rfl, hy.cell (i := 2) rfl, hy.cell (i := 3) rfl, hy.cell (i := 4) rfl⟩
  have HEn2 : Hid (∀ X v g, Keeps (fun _ => False) W4 X → Sl X (fun b => b < X.heap.size) Pred.d (hs ++ [more]) v → g < X.heap.size → Calls Tryd.prog 7 #[vl, vi, v, .agg #[.string want.cls, .int .i64 want.ty.kind, .string want.ty.name, .int .i64 want.ty.var, .slice Aw want.ty.args.length cw]] X (fun e w' => Keeps (fun _ => False) X w' ∧ ∃ A c, e = .returned (.tuple #[.agg #[.int .i64 p2.kind, .int .i64 p2.num, .slice A p2.subs.length c], .int .i64 r2]) ∧ PfC w' (fun b => b ≠ g ∧ b < w'.heap.size) p2 (.slice A p2.subs.length c))) := fun X v g hk hv hg => by
    have hsz := hk.size
    have hkX := hk4W.trans hk (fun _ _ h => h)
    refine (Entail_any l s (hs ++ [more]) want (l.length + 1) 402 HFit.out vl vi v (fun b => b < X.heap.size) X Aw cw ((HVl.out.keeps hkX (fun _ _ h => h)).mono (fun b hb => by have h1 : b < W.heap.size := hb; omega)) ((HVi.out.keeps hkX (fun _ _ h => h)).mono (fun b hb => by have h1 : b < W.heap.size := hb; omega)) hv (fun b hb => hb) ((HTw.out.keeps hkX (fun _ _ h => h)).mono (fun b hb => by have h1 : b < W.heap.size := hb; omega)) HCw.out (HZ.out.keeps hkX (fun h => h)) p2 r2 HE2.out).mono ?_
    rintro e w' ⟨h1, A, c, h2, h3⟩
    exact ⟨h1, A, c, h2, h3.mono (fun b hb => ⟨by omega, hb.2⟩)⟩
  have HB0 := Lib.hid hB0
  have HK4W := Lib.hid hk4W
  have HB8W : Hid (b8 < W4.heap.size) := by show _ < _; omega
  clear hB0 hk4W hsW4 hb8lt hs04
  go_cut [15, 16] (fun v15 v16 wd => ∃ g A2 c2, v15 = .pointer (some ⟨g, 0, none⟩) ∧ v16 = .int .i64 r2 ∧ Blk wd g 27 [.int .i64 p2.kind, .int .i64 p2.num, .slice A2 p2.subs.length c2] ∧ PfC wd (fun b => b < wd.heap.size) p2 (.slice A2 p2.subs.length c2) ∧ Keeps (fun _ => False) W4 wd)
  case first =>
    refine wp_region_noPanic ?_
    refine wp_region_till [13] (fun X => X.cell? ⟨b8, 0, none⟩ = some (.string more.cls) ∧ X.cell? ⟨b8, 1, none⟩ = some (.int .i64 more.ty.kind) ∧ X.cell? ⟨b8, 2, none⟩ = some (.string more.ty.name) ∧ X.cell? ⟨b8, 3, none⟩ = some (.int .i64 more.ty.var) ∧ X.cell? ⟨b8, 4, none⟩ = some (.slice Am more.ty.args.length cm) ∧ X.cell? ⟨b8 + 1, 0, none⟩ = some (.string want.cls) ∧ X.cell? ⟨b8 + 1, 1, none⟩ = some (.int .i64 want.ty.kind) ∧ X.cell? ⟨b8 + 1, 2, none⟩ = some (.string want.ty.name) ∧ X.cell? ⟨b8 + 1, 3, none⟩ = some (.int .i64 want.ty.var) ∧ X.cell? ⟨b8 + 1, 4, none⟩ = some (.slice Aw want.ty.args.length cw)) (by kernel_rfl) ?_ (fun hE => ?_)
    · exact hQ.out _ (by repeat (first | (with_reducible exact Keeps.refl _ _) | (with_reducible refine Keeps.drew ?_) | (with_reducible refine Keeps.drewN ?_ _) | (with_reducible refine Keeps.trans ?_ (by assumption) (fun _ _ h => h))))
    have hS := hE (by kernel_rfl)
    refine wpAnyT_pure (i := 0) (oi := { dst := some 37, op := Op.move (Operand.tmp 0), type := 31, pos := "types.go:689", after := #[], guard := none }) (v := ?v5_0_1) rfl (by kernel_rfl) (fun _ _ _ h => h) (Or.inl ⟨by rfl, ?y5_0_1⟩) (fun _ => hS) ?_
    case y5_0_1 => (intro w hSw; go_simp; try with_reducible rfl)
    try simp only [Act.put, List.setIfInBounds_toArray, List.set_cons_zero, List.set_cons_succ]
    refine wpAnyT_pure (i := 1) (oi := { dst := some 38, op := Op.move (Operand.tmp 1), type := 45, pos := "types.go:689", after := #[], guard := none }) (v := ?v5_1_2) rfl (by kernel_rfl) (fun _ _ _ h => h) (Or.inl ⟨by rfl, ?y5_1_2⟩) (fun _ => hS) ?_
    case y5_1_2 => (intro w hSw; go_simp; try with_reducible rfl)
    try simp only [Act.put, List.setIfInBounds_toArray, List.set_cons_zero, List.set_cons_succ]
    refine wpAnyT_pure (i := 2) (oi := { dst := some 39, op := Op.move (Operand.tmp 2), type := 36, pos := "types.go:689", after := #[], guard := none }) (v := ?v5_2_3) rfl (by kernel_rfl) (fun _ _ _ h => h) (Or.inl ⟨by rfl, ?y5_2_3⟩) (fun _ => hS) ?_
    case y5_2_3 => (intro w hSw; go_simp; try with_reducible rfl)
    try simp only [Act.put, List.setIfInBounds_toArray, List.set_cons_zero, List.set_cons_succ]
    refine wpAnyT_take (i := 4) (oi := { dst := some 41, op := Op.load 35 (Operand.tmp 8), type := 35, pos := "types.go:689", after := #[], guard := none }) (v := ?v5_4_4) rfl (by kernel_rfl) (fun _ _ _ h => h) (Or.inl ⟨by rfl, ?y5_4_4⟩) hS ?_
    case y5_4_4 => (intro w hSw; (try dsimp only at hSw); go_simp; try with_reducible rfl)
    try simp only [Act.put, List.setIfInBounds_toArray, List.set_cons_zero, List.set_cons_succ]
    refine wpAnyT_take (i := 7) (oi := { dst := some 44, op := Op.load 35 (Operand.tmp 9), type := 35, pos := "types.go:689", after := #[], guard := none }) (v := ?v5_7_5) rfl (by kernel_rfl) (fun _ _ _ h => h) (Or.inl ⟨by rfl, ?y5_7_5⟩) hS ?_
    case y5_7_5 => (intro w hSw; (try dsimp only at hSw); go_simp; try with_reducible rfl)
    try simp only [Act.put, List.setIfInBounds_toArray, List.set_cons_zero, List.set_cons_succ]
    refine wpAnyT_ready (rs := [3, 5, 12]) (by kernel_rfl) rfl ?_
    refine AllT.cons (o := { dst := some 40, op := Op.call { callee := Callee.value (Operand.func 13), args := #[Operand.tmp 39], argTypes := #[36] }, type := 36, pos := "types.go:689", after := #[⟨2, .data⟩], guard := none }) rfl (fun K hK => ?_) ?_
    · (go_simp; go_at_call 13; with_reducible refine (HCl5.out _ (by repeat (first | (with_reducible exact Keeps.refl _ _) | (with_reducible refine Keeps.drew ?_) | (with_reducible refine Keeps.drewN ?_ _) | (with_reducible refine Keeps.trans ?_ (by assumption) (fun _ _ h => h))))).mono ?_; rintro e wq ⟨u, xs, rfl, hown, hxs, hkq⟩; go_wp2_with fail)
      refine hK.out _ _ (fun _ => ?_) (fun hE => ?_)
      · exact hQ.out _ (by repeat (first | (with_reducible exact Keeps.refl _ _) | (with_reducible refine Keeps.drew ?_) | (with_reducible refine Keeps.drewN ?_ _) | (with_reducible refine Keeps.trans ?_ (by assumption) (fun _ _ h => h))))
      have hS := hE (by kernel_rfl)
      clear hK K hE
      try simp only [Act.put, List.setIfInBounds_toArray, List.set_cons_zero, List.set_cons_succ]
      refine wpAnyT_ready (rs := [5, 12]) (by kernel_rfl) rfl ?_
      refine AllT.cons (o := { dst := some 42, op := Op.buildSlice 36 1 #[(0, Operand.tmp 41)], type := 36, pos := "types.go:689", after := #[⟨4, .data⟩], guard := none }) rfl (fun K hK => ?_) ?_
      · (go_simp; refine name_world ?_; intro w5 hw5; (first | (obtain ⟨hB5, hk5, _⟩ := blk_of_alloc (V := W4) (cs := [.string more.cls, .int .i64 more.ty.kind, .string more.ty.name, .int .i64 more.ty.var, .slice Am more.ty.args.length cm]) hw5 (by repeat (first | (with_reducible exact Keeps.refl _ _) | (with_reducible refine Keeps.drew ?_) | (with_reducible refine Keeps.drewN ?_ _) | (with_reducible refine Keeps.trans ?_ (by assumption) (fun _ _ h => h))))) | (obtain ⟨hB5, hk5, _⟩ := blk_of_alloc_d (V := W4) (cs := [.string more.cls, .int .i64 more.ty.kind, .string more.ty.name, .int .i64 more.ty.var, .slice Am more.ty.args.length cm]) hw5 (by repeat (first | (with_reducible exact Keeps.refl _ _) | (with_reducible refine Keeps.drew ?_) | (with_reducible refine Keeps.drewN ?_ _) | (with_reducible refine Keeps.trans ?_ (by assumption) (fun _ _ h => h)))))); clear hw5)
        refine hK.out _ _ (fun _ => ?_) (fun hE => ?_)
        · exact hQ.out _ (by repeat (first | (with_reducible exact Keeps.refl _ _) | (with_reducible refine Keeps.drew ?_) | (with_reducible refine Keeps.drewN ?_ _) | (with_reducible refine Keeps.trans ?_ (by assumption) (fun _ _ h => h))))
        have hS := hE (by kernel_rfl)
        clear hK K hE
        try simp only [Act.put, List.setIfInBounds_toArray, List.set_cons_zero, List.set_cons_succ]
        refine wpAnyT_ready (rs := [6, 12]) (by kernel_rfl) rfl ?_
        refine AllT.cons (o := { dst := some 43, op := Op.call { callee := Callee.builtin Builtin.append, args := #[Operand.tmp 40, Operand.tmp 42], argTypes := #[36, 36] }, type := 36, pos := "types.go:689", after := #[⟨3, .data⟩, ⟨5, .data⟩, ⟨3, .chain⟩], guard := none }) rfl (fun K hK => ?_) ?_
        · (refine step_append_kept2 (W0 := wq) rfl (.tmp 40) (.tmp 42) 36 rfl B0 35 i0 _ 5 72 Tryd.underlying36 hi0 hz0 hz1 hz2 rfl (by decide) u hs.length xs rfl hown (by repeat (first | (with_reducible exact Keeps.refl _ _) | (with_reducible refine Keeps.drew ?_) | (with_reducible refine Keeps.drewN ?_ _) | (with_reducible refine Keeps.trans ?_ (by assumption) (fun _ _ h => h)))) _ _ #[.string more.cls, .int .i64 more.ty.kind, .string more.ty.name, .int .i64 more.ty.var, .slice Am more.ty.args.length cm] rfl rfl hB5 (by simp [Value.oneCell']) HMq.out HBq.out (by have h1 := Keeps.size (show Keeps (fun _ => False) W4 wq from (by repeat (first | (with_reducible exact Keeps.refl _ _) | (with_reducible refine Keeps.drew ?_) | (with_reducible refine Keeps.drewN ?_ _) | (with_reducible refine Keeps.trans ?_ (by assumption) (fun _ _ h => h))))); have h2 := HB0.out; omega) ?_; intro g1 cap1 w6 hown1 hk1 hkp1 hat1; have hsl6 := pred_more HQ2.out.1 HQ2.out.2 hxs (show Keeps (fun _ => False) W4 wq from (by repeat (first | (with_reducible exact Keeps.refl _ _) | (with_reducible refine Keeps.drew ?_) | (with_reducible refine Keeps.drewN ?_ _) | (with_reducible refine Keeps.trans ?_ (by assumption) (fun _ _ h => h))))) hk1 (fun i h => (hown.lt i h).1) hown1 HWT.out; have hk46 : Keeps (fun _ => False) W4 w6 := Keeps.trans (show Keeps (fun _ => False) W4 wq from (by repeat (first | (with_reducible exact Keeps.refl _ _) | (with_reducible refine Keeps.drew ?_) | (with_reducible refine Keeps.drewN ?_ _) | (with_reducible refine Keeps.trans ?_ (by assumption) (fun _ _ h => h))))) hk1 (fun i hi h => by have h1 := (hown.lt i h).1; have h2 := HB0.out; omega))
          refine hK.out _ _ (fun _ => ?_) (fun hE => ?_)
          · exact hQ.out _ (by repeat (first | (with_reducible exact Keeps.refl _ _) | (with_reducible refine Keeps.drew ?_) | (with_reducible refine Keeps.drewN ?_ _) | (with_reducible refine Keeps.trans ?_ (by assumption) (fun _ _ h => h))))
          have hS := hE (by kernel_rfl)
          clear hK K hE
          try simp only [Act.put, List.setIfInBounds_toArray, List.set_cons_zero, List.set_cons_succ]
          refine wpAnyT_ready (rs := [8, 12]) (by kernel_rfl) rfl ?_
          refine AllT.cons (o := { dst := some 45, op := Op.call { callee := Callee.value (Operand.func 7), args := #[Operand.tmp 37, Operand.tmp 38, Operand.tmp 43, Operand.tmp 44], argTypes := #[31, 45, 36, 35] }, type := 29, pos := "types.go:689", after := #[⟨0, .data⟩, ⟨1, .data⟩, ⟨6, .data⟩, ⟨7, .data⟩, ⟨6, .chain⟩], guard := none }) rfl (fun K hK => ?_) ?_
          · (go_simp; go_at_call 7; with_reducible refine (HEn2.out _ _ b8 (by repeat (first | (with_reducible exact Keeps.refl _ _) | (with_reducible refine Keeps.drew ?_) | (with_reducible refine Keeps.drewN ?_ _) | (with_reducible refine Keeps.trans ?_ (by assumption) (fun _ _ h => h)))) (by first | exact hsl6 | exact (hsl6.keeps (show Keeps (fun _ => False) w6 _ from (by repeat (first | (with_reducible exact Keeps.refl _ _) | (with_reducible refine Keeps.drew ?_) | (with_reducible refine Keeps.drewN ?_ _) | (with_reducible refine Keeps.trans ?_ (by assumption) (fun _ _ h => h))))) (fun _ _ h => h)).mono (fun b hb => by have h1 := hkA.size; have h2 : b < w6.heap.size := hb; simp at h1 ⊢; omega)) (by have h1 := hk46.size; have h2 := HB8W.out; omega)).mono ?_; rintro e w8 ⟨hk8, A8, c8, rfl, hp8⟩; go_wp2_with fail)
            refine hK.out _ _ (fun _ => ?_) (fun hE => ?_)
            · exact hQ.out _ (by repeat (first | (with_reducible exact Keeps.refl _ _) | (with_reducible refine Keeps.drew ?_) | (with_reducible refine Keeps.drewN ?_ _) | (with_reducible refine Keeps.trans ?_ (by assumption) (fun _ _ h => h))))
            have hS := hE (by kernel_rfl)
            clear hK K hE
            try simp only [Act.put, List.setIfInBounds_toArray, List.set_cons_zero, List.set_cons_succ]
            refine wpAnyT_pure (i := 9) (oi := { dst := some 36, op := Op.move (Operand.tmp 45), type := 29, pos := "types.go:689", after := #[⟨8, .data⟩], guard := none }) (v := ?v5_9_6) rfl (by kernel_rfl) (fun _ _ _ h => h) (Or.inl ⟨by rfl, ?y5_9_6⟩) (fun _ => hS) ?_
            case y5_9_6 => (intro w hSw; go_simp; try with_reducible rfl)
            try simp only [Act.put, List.setIfInBounds_toArray, List.set_cons_zero, List.set_cons_succ]
            refine wpAnyT_pure (i := 10) (oi := { dst := some 46, op := Op.extract (Operand.tmp 36) 0, type := 27, pos := "types.go:689", after := #[⟨9, .data⟩], guard := none }) (v := ?v5_10_7) rfl (by kernel_rfl) (fun _ _ _ h => h) (Or.inl ⟨by rfl, ?y5_10_7⟩) (fun _ => hS) ?_
            case y5_10_7 => (intro w hSw; go_simp; try with_reducible rfl)
            try simp only [Act.put, List.setIfInBounds_toArray, List.set_cons_zero, List.set_cons_succ]
            refine wpAnyT_pure (i := 11) (oi := { dst := some 47, op := Op.extract (Operand.tmp 36) 1, type := 28, pos := "types.go:689", after := #[⟨9, .data⟩, ⟨13, .gcOnly .lateStores⟩], guard := none }) (v := ?v5_11_8) rfl (by kernel_rfl) (fun _ _ _ h => h) (Or.inl ⟨by rfl, ?y5_11_8⟩) (fun _ => hS) ?_
            case y5_11_8 => (intro w hSw; go_simp; try with_reducible rfl)
            try simp only [Act.put, List.setIfInBounds_toArray, List.set_cons_zero, List.set_cons_succ]
            refine wpAnyT_ready (rs := [12]) (by kernel_rfl) rfl ?_
            refine AllT.cons (o := { dst := some 15, op := Op.alloc 27, type := 0, pos := "types.go:689", after := #[], guard := none }) rfl (fun K hK => ?_) ?_
            · (go_simp; refine name_world ?_; intro wA hwA; (first | (obtain ⟨hBA, hkA, hgA⟩ := blk_of_alloc (V := W4) (cs := [.int .i64 0, .int .i64 0, .slice none 0 0]) hwA (by repeat (first | (with_reducible exact Keeps.refl _ _) | (with_reducible refine Keeps.drew ?_) | (with_reducible refine Keeps.drewN ?_ _) | (with_reducible refine Keeps.trans ?_ (by assumption) (fun _ _ h => h))))) | (obtain ⟨hBA, hkA, hgA⟩ := blk_of_alloc_d (V := W4) (cs := [.int .i64 0, .int .i64 0, .slice none 0 0]) hwA (by repeat (first | (with_reducible exact Keeps.refl _ _) | (with_reducible refine Keeps.drew ?_) | (with_reducible refine Keeps.drewN ?_ _) | (with_reducible refine Keeps.trans ?_ (by assumption) (fun _ _ h => h)))))); clear hwA)
              refine hK.out _ _ (fun _ => ?_) (fun hE => ?_)
              · exact hQ.out _ (by repeat (first | (with_reducible exact Keeps.refl _ _) | (with_reducible refine Keeps.drew ?_) | (with_reducible refine Keeps.drewN ?_ _) | (with_reducible refine Keeps.trans ?_ (by assumption) (fun _ _ h => h))))
              have hS := hE (by kernel_rfl)
              clear hK K hE
              try simp only [Act.put, List.setIfInBounds_toArray, List.set_cons_zero, List.set_cons_succ]
              refine wpAnyT_ready (rs := [13]) (by kernel_rfl) rfl ?_
              refine AllT.cons (o := { dst := none, op := Op.store 27 (Operand.tmp 15) (Operand.tmp 46), type := 0, pos := "types.go:689", after := #[⟨12, .data⟩, ⟨10, .data⟩, ⟨8, .chain⟩, ⟨0, .phase⟩, ⟨1, .phase⟩, ⟨2, .phase⟩, ⟨3, .phase⟩, ⟨4, .phase⟩, ⟨5, .phase⟩, ⟨6, .phase⟩, ⟨7, .phase⟩, ⟨8, .phase⟩, ⟨9, .phase⟩, ⟨10, .phase⟩, ⟨11, .textOnly .lateStores⟩, ⟨12, .phase⟩], guard := none }) rfl (fun K hK => ?_) ?_
              · (have r0 := hBA.cell (i := 0) rfl; have r1 := hBA.cell (i := 1) rfl; have r2 := hBA.cell (i := 2) rfl; have f0 := hBA.free 0; have f1 := hBA.free 1; have f2 := hBA.free 2; have hlA := hBA.lt; go_simp)
                refine hK.out _ _ (fun he => Bool.noConfusion (show false = true from he)) (fun hE => ?_)
                clear hK K hE
                try simp only [Act.put, List.setIfInBounds_toArray, List.set_cons_zero, List.set_cons_succ]
                refine wpAnyT_ready (rs := [14]) (by kernel_rfl) rfl ?_
                refine AllT.cons (o := { dst := some 16, op := Op.assign (Operand.tmp 47), type := 28, pos := "types.go:689", after := #[⟨11, .data⟩, ⟨13, .chain⟩, ⟨0, .phase⟩, ⟨1, .phase⟩, ⟨2, .phase⟩, ⟨3, .phase⟩, ⟨4, .phase⟩, ⟨5, .phase⟩, ⟨6, .phase⟩, ⟨7, .phase⟩, ⟨8, .phase⟩, ⟨9, .phase⟩, ⟨10, .phase⟩, ⟨11, .phase⟩, ⟨12, .phase⟩, ⟨13, .phase⟩], guard := none }) rfl (fun K hK => ?_) ?_
                · go_simp
                  refine hK.out _ _ (fun he => Bool.noConfusion (show false = true from he)) (fun hE => ?_)
                  clear hK K hE
                  try simp only [Act.put, List.setIfInBounds_toArray, List.set_cons_zero, List.set_cons_succ]
                  refine wpAnyT_done (by kernel_rfl) ?_ _
                  refine NoPanic.normal ?_
                  obtain ⟨hB3, hK3⟩ := three hBA (.int .i64 p2.kind) (.int .i64 p2.num) (.slice A8 p2.subs.length c8)
                  have hkf := Keeps.trans (show Keeps (fun _ => False) W4 _ from (by repeat (first | (with_reducible exact Keeps.refl _ _) | (with_reducible refine Keeps.drew ?_) | (with_reducible refine Keeps.drewN ?_ _) | (with_reducible refine Keeps.trans ?_ (by assumption) (fun _ _ h => h))))) hK3 (fun i hi h => by have h2 : i = _ := h; omega)
                  have hpf := pf_final ((hp8.keeps hkA (fun _ _ h => h)).mono (fun b hb => ⟨(by have h3 := hb.2; omega : b ≠ _), by have h1 := hkA.size; have h3 := hb.2; omega⟩)) hK3
                  have HB3 := Lib.hid hB3
                  have HKF := Lib.hid hkf
                  have HPF := Lib.hid hpf
                  clear hB3 hkf hpf hK3
                  go_wp2_with fail
                  go_meet
                  exact ⟨_, A8, c8, rfl, rfl, HB3.out, HPF.out, HKF.out⟩
                exact AllT.nil
              exact AllT.nil
            exact AllT.nil
          refine AllT.cons (o := { dst := some 15, op := Op.alloc 27, type := 0, pos := "types.go:689", after := #[], guard := none }) rfl (fun K hK => ?_) ?_
          · (go_simp; refine name_world ?_; intro wA hwA; (first | (obtain ⟨hBA, hkA, hgA⟩ := blk_of_alloc (V := W4) (cs := [.int .i64 0, .int .i64 0, .slice none 0 0]) hwA (by repeat (first | (with_reducible exact Keeps.refl _ _) | (with_reducible refine Keeps.drew ?_) | (with_reducible refine Keeps.drewN ?_ _) | (with_reducible refine Keeps.trans ?_ (by assumption) (fun _ _ h => h))))) | (obtain ⟨hBA, hkA, hgA⟩ := blk_of_alloc_d (V := W4) (cs := [.int .i64 0, .int .i64 0, .slice none 0 0]) hwA (by repeat (first | (with_reducible exact Keeps.refl _ _) | (with_reducible refine Keeps.drew ?_) | (with_reducible refine Keeps.drewN ?_ _) | (with_reducible refine Keeps.trans ?_ (by assumption) (fun _ _ h => h)))))); clear hwA)
            refine hK.out _ _ (fun _ => ?_) (fun hE => ?_)
            · exact hQ.out _ (by repeat (first | (with_reducible exact Keeps.refl _ _) | (with_reducible refine Keeps.drew ?_) | (with_reducible refine Keeps.drewN ?_ _) | (with_reducible refine Keeps.trans ?_ (by assumption) (fun _ _ h => h))))
            have hS := hE (by kernel_rfl)
            clear hK K hE
            try simp only [Act.put, List.setIfInBounds_toArray, List.set_cons_zero, List.set_cons_succ]
            refine wpAnyT_ready (rs := [8]) (by kernel_rfl) rfl ?_
            refine AllT.cons (o := { dst := some 45, op := Op.call { callee := Callee.value (Operand.func 7), args := #[Operand.tmp 37, Operand.tmp 38, Operand.tmp 43, Operand.tmp 44], argTypes := #[31, 45, 36, 35] }, type := 29, pos := "types.go:689", after := #[⟨0, .data⟩, ⟨1, .data⟩, ⟨6, .data⟩, ⟨7, .data⟩, ⟨6, .chain⟩], guard := none }) rfl (fun K hK => ?_) ?_
            · (go_simp; go_at_call 7; with_reducible refine (HEn2.out _ _ _ (by repeat (first | (with_reducible exact Keeps.refl _ _) | (with_reducible refine Keeps.drew ?_) | (with_reducible refine Keeps.drewN ?_ _) | (with_reducible refine Keeps.trans ?_ (by assumption) (fun _ _ h => h)))) (by first | exact hsl6 | exact (hsl6.keeps (show Keeps (fun _ => False) w6 _ from (by repeat (first | (with_reducible exact Keeps.refl _ _) | (with_reducible refine Keeps.drew ?_) | (with_reducible refine Keeps.drewN ?_ _) | (with_reducible refine Keeps.trans ?_ (by assumption) (fun _ _ h => h))))) (fun _ _ h => h)).mono (fun b hb => by have h1 := hkA.size; have h2 : b < w6.heap.size := hb; simp at h1 ⊢; omega)) hBA.lt).mono ?_; rintro e w8 ⟨hk8, A8, c8, rfl, hp8⟩; go_wp2_with fail; have hBA := hBA.keeps (X := fun _ => False) (show Keeps (fun _ => False) _ w8 from (by repeat (first | (with_reducible exact Keeps.refl _ _) | (with_reducible refine Keeps.drew ?_) | (with_reducible refine Keeps.drewN ?_ _) | (with_reducible refine Keeps.trans ?_ (by assumption) (fun _ _ h => h))))) (fun h => h))
              refine hK.out _ _ (fun _ => ?_) (fun hE => ?_)
              · exact hQ.out _ (by repeat (first | (with_reducible exact Keeps.refl _ _) | (with_reducible refine Keeps.drew ?_) | (with_reducible refine Keeps.drewN ?_ _) | (with_reducible refine Keeps.trans ?_ (by assumption) (fun _ _ h => h))))
              have hS := hE (by kernel_rfl)
              clear hK K hE
              try simp only [Act.put, List.setIfInBounds_toArray, List.set_cons_zero, List.set_cons_succ]
              refine wpAnyT_pure (i := 9) (oi := { dst := some 36, op := Op.move (Operand.tmp 45), type := 29, pos := "types.go:689", after := #[⟨8, .data⟩], guard := none }) (v := ?v5_9_9) rfl (by kernel_rfl) (fun _ _ _ h => h) (Or.inl ⟨by rfl, ?y5_9_9⟩) (fun _ => hS) ?_
              case y5_9_9 => (intro w hSw; go_simp; try with_reducible rfl)
              try simp only [Act.put, List.setIfInBounds_toArray, List.set_cons_zero, List.set_cons_succ]
              refine wpAnyT_pure (i := 10) (oi := { dst := some 46, op := Op.extract (Operand.tmp 36) 0, type := 27, pos := "types.go:689", after := #[⟨9, .data⟩], guard := none }) (v := ?v5_10_10) rfl (by kernel_rfl) (fun _ _ _ h => h) (Or.inl ⟨by rfl, ?y5_10_10⟩) (fun _ => hS) ?_
              case y5_10_10 => (intro w hSw; go_simp; try with_reducible rfl)
              try simp only [Act.put, List.setIfInBounds_toArray, List.set_cons_zero, List.set_cons_succ]
              refine wpAnyT_pure (i := 11) (oi := { dst := some 47, op := Op.extract (Operand.tmp 36) 1, type := 28, pos := "types.go:689", after := #[⟨9, .data⟩, ⟨13, .gcOnly .lateStores⟩], guard := none }) (v := ?v5_11_11) rfl (by kernel_rfl) (fun _ _ _ h => h) (Or.inl ⟨by rfl, ?y5_11_11⟩) (fun _ => hS) ?_
              case y5_11_11 => (intro w hSw; go_simp; try with_reducible rfl)
              try simp only [Act.put, List.setIfInBounds_toArray, List.set_cons_zero, List.set_cons_succ]
              refine wpAnyT_ready (rs := [13]) (by kernel_rfl) rfl ?_
              refine AllT.cons (o := { dst := none, op := Op.store 27 (Operand.tmp 15) (Operand.tmp 46), type := 0, pos := "types.go:689", after := #[⟨12, .data⟩, ⟨10, .data⟩, ⟨8, .chain⟩, ⟨0, .phase⟩, ⟨1, .phase⟩, ⟨2, .phase⟩, ⟨3, .phase⟩, ⟨4, .phase⟩, ⟨5, .phase⟩, ⟨6, .phase⟩, ⟨7, .phase⟩, ⟨8, .phase⟩, ⟨9, .phase⟩, ⟨10, .phase⟩, ⟨11, .textOnly .lateStores⟩, ⟨12, .phase⟩], guard := none }) rfl (fun K hK => ?_) ?_
              · (have r0 := hBA.cell (i := 0) rfl; have r1 := hBA.cell (i := 1) rfl; have r2 := hBA.cell (i := 2) rfl; have f0 := hBA.free 0; have f1 := hBA.free 1; have f2 := hBA.free 2; have hlA := hBA.lt; go_simp)
                refine hK.out _ _ (fun he => Bool.noConfusion (show false = true from he)) (fun hE => ?_)
                clear hK K hE
                try simp only [Act.put, List.setIfInBounds_toArray, List.set_cons_zero, List.set_cons_succ]
                refine wpAnyT_ready (rs := [14]) (by kernel_rfl) rfl ?_
                refine AllT.cons (o := { dst := some 16, op := Op.assign (Operand.tmp 47), type := 28, pos := "types.go:689", after := #[⟨11, .data⟩, ⟨13, .chain⟩, ⟨0, .phase⟩, ⟨1, .phase⟩, ⟨2, .phase⟩, ⟨3, .phase⟩, ⟨4, .phase⟩, ⟨5, .phase⟩, ⟨6, .phase⟩, ⟨7, .phase⟩, ⟨8, .phase⟩, ⟨9, .phase⟩, ⟨10, .phase⟩, ⟨11, .phase⟩, ⟨12, .phase⟩, ⟨13, .phase⟩], guard := none }) rfl (fun K hK => ?_) ?_
                · go_simp
                  refine hK.out _ _ (fun he => Bool.noConfusion (show false = true from he)) (fun hE => ?_)
                  clear hK K hE
                  try simp only [Act.put, List.setIfInBounds_toArray, List.set_cons_zero, List.set_cons_succ]
                  refine wpAnyT_done (by kernel_rfl) ?_ _
                  refine NoPanic.normal ?_
                  obtain ⟨hB3, hK3⟩ := three hBA (.int .i64 p2.kind) (.int .i64 p2.num) (.slice A8 p2.subs.length c8)
                  have hkf := Keeps.trans (show Keeps (fun _ => False) W4 _ from (by repeat (first | (with_reducible exact Keeps.refl _ _) | (with_reducible refine Keeps.drew ?_) | (with_reducible refine Keeps.drewN ?_ _) | (with_reducible refine Keeps.trans ?_ (by assumption) (fun _ _ h => h))))) hK3 (fun i hi h => by have h2 : i = _ := h; omega)
                  have hpf := pf_final hp8 hK3
                  have HB3 := Lib.hid hB3
                  have HKF := Lib.hid hkf
                  have HPF := Lib.hid hpf
                  clear hB3 hkf hpf hK3
                  go_wp2_with fail
                  go_meet
                  exact ⟨_, A8, c8, rfl, rfl, HB3.out, HPF.out, HKF.out⟩
                exact AllT.nil
              exact AllT.nil
            exact AllT.nil
          exact AllT.nil
        refine AllT.cons (o := { dst := some 15, op := Op.alloc 27, type := 0, pos := "types.go:689", after := #[], guard := none }) rfl (fun K hK => ?_) ?_
        · (go_simp; refine name_world ?_; intro wA hwA; (first | (obtain ⟨hBA, hkA, hgA⟩ := blk_of_alloc (V := W4) (cs := [.int .i64 0, .int .i64 0, .slice none 0 0]) hwA (by repeat (first | (with_reducible exact Keeps.refl _ _) | (with_reducible refine Keeps.drew ?_) | (with_reducible refine Keeps.drewN ?_ _) | (with_reducible refine Keeps.trans ?_ (by assumption) (fun _ _ h => h))))) | (obtain ⟨hBA, hkA, hgA⟩ := blk_of_alloc_d (V := W4) (cs := [.int .i64 0, .int .i64 0, .slice none 0 0]) hwA (by repeat (first | (with_reducible exact Keeps.refl _ _) | (with_reducible refine Keeps.drew ?_) | (with_reducible refine Keeps.drewN ?_ _) | (with_reducible refine Keeps.trans ?_ (by assumption) (fun _ _ h => h)))))); clear hwA; have hB5 := hB5.keeps (X := fun _ => False) (show Keeps (fun _ => False) _ wA from (by repeat (first | (with_reducible exact Keeps.refl _ _) | (with_reducible refine Keeps.drew ?_) | (with_reducible refine Keeps.drewN ?_ _) | (with_reducible refine Keeps.trans ?_ (by assumption) (fun _ _ h => h))))) (fun h => h))
          refine hK.out _ _ (fun _ => ?_) (fun hE => ?_)
          · exact hQ.out _ (by repeat (first | (with_reducible exact Keeps.refl _ _) | (with_reducible refine Keeps.drew ?_) | (with_reducible refine Keeps.drewN ?_ _) | (with_reducible refine Keeps.trans ?_ (by assumption) (fun _ _ h => h))))
          have hS := hE (by kernel_rfl)
          clear hK K hE
          try simp only [Act.put, List.setIfInBounds_toArray, List.set_cons_zero, List.set_cons_succ]
          refine wpAnyT_ready (rs := [6]) (by kernel_rfl) rfl ?_
          refine AllT.cons (o := { dst := some 43, op := Op.call { callee := Callee.builtin Builtin.append, args := #[Operand.tmp 40, Operand.tmp 42], argTypes := #[36, 36] }, type := 36, pos := "types.go:689", after := #[⟨3, .data⟩, ⟨5, .data⟩, ⟨3, .chain⟩], guard := none }) rfl (fun K hK => ?_) ?_
          · (refine step_append_kept2 (W0 := wq) rfl (.tmp 40) (.tmp 42) 36 rfl B0 35 i0 _ 5 72 Tryd.underlying36 hi0 hz0 hz1 hz2 rfl (by decide) u hs.length xs rfl hown (by repeat (first | (with_reducible exact Keeps.refl _ _) | (with_reducible refine Keeps.drew ?_) | (with_reducible refine Keeps.drewN ?_ _) | (with_reducible refine Keeps.trans ?_ (by assumption) (fun _ _ h => h)))) _ _ #[.string more.cls, .int .i64 more.ty.kind, .string more.ty.name, .int .i64 more.ty.var, .slice Am more.ty.args.length cm] rfl rfl hB5 (by simp [Value.oneCell']) HMq.out HBq.out (by have h1 := Keeps.size (show Keeps (fun _ => False) W4 wq from (by repeat (first | (with_reducible exact Keeps.refl _ _) | (with_reducible refine Keeps.drew ?_) | (with_reducible refine Keeps.drewN ?_ _) | (with_reducible refine Keeps.trans ?_ (by assumption) (fun _ _ h => h))))); have h2 := HB0.out; omega) ?_; intro g1 cap1 w6 hown1 hk1 hkp1 hat1; have hBA : Blk w6 _ _ _ := hkp1 _ _ hBA (own_ne_blk (own_keeps hown (show Keeps (fun _ => False) wq _ from (by repeat (first | (with_reducible exact Keeps.refl _ _) | (with_reducible refine Keeps.drew ?_) | (with_reducible refine Keeps.drewN ?_ _) | (with_reducible refine Keeps.trans ?_ (by assumption) (fun _ _ h => h))))) (fun _ _ h => h)) hBA (by decide)); have hsl6 := pred_more HQ2.out.1 HQ2.out.2 hxs (show Keeps (fun _ => False) W4 wq from (by repeat (first | (with_reducible exact Keeps.refl _ _) | (with_reducible refine Keeps.drew ?_) | (with_reducible refine Keeps.drewN ?_ _) | (with_reducible refine Keeps.trans ?_ (by assumption) (fun _ _ h => h))))) hk1 (fun i h => (hown.lt i h).1) hown1 HWT.out; have hk46 : Keeps (fun _ => False) W4 w6 := Keeps.trans (show Keeps (fun _ => False) W4 wq from (by repeat (first | (with_reducible exact Keeps.refl _ _) | (with_reducible refine Keeps.drew ?_) | (with_reducible refine Keeps.drewN ?_ _) | (with_reducible refine Keeps.trans ?_ (by assumption) (fun _ _ h => h))))) hk1 (fun i hi h => by have h1 := (hown.lt i h).1; have h2 := HB0.out; omega))
            refine hK.out _ _ (fun _ => ?_) (fun hE => ?_)
            · exact hQ.out _ (by repeat (first | (with_reducible exact Keeps.refl _ _) | (with_reducible refine Keeps.drew ?_) | (with_reducible refine Keeps.drewN ?_ _) | (with_reducible refine Keeps.trans ?_ (by assumption) (fun _ _ h => h))))
            have hS := hE (by kernel_rfl)
            clear hK K hE
            try simp only [Act.put, List.setIfInBounds_toArray, List.set_cons_zero, List.set_cons_succ]
            refine wpAnyT_ready (rs := [8]) (by kernel_rfl) rfl ?_
            refine AllT.cons (o := { dst := some 45, op := Op.call { callee := Callee.value (Operand.func 7), args := #[Operand.tmp 37, Operand.tmp 38, Operand.tmp 43, Operand.tmp 44], argTypes := #[31, 45, 36, 35] }, type := 29, pos := "types.go:689", after := #[⟨0, .data⟩, ⟨1, .data⟩, ⟨6, .data⟩, ⟨7, .data⟩, ⟨6, .chain⟩], guard := none }) rfl (fun K hK => ?_) ?_
            · (go_simp; go_at_call 7; with_reducible refine (HEn2.out _ _ _ (by repeat (first | (with_reducible exact Keeps.refl _ _) | (with_reducible refine Keeps.drew ?_) | (with_reducible refine Keeps.drewN ?_ _) | (with_reducible refine Keeps.trans ?_ (by assumption) (fun _ _ h => h)))) (by first | exact hsl6 | exact (hsl6.keeps (show Keeps (fun _ => False) w6 _ from (by repeat (first | (with_reducible exact Keeps.refl _ _) | (with_reducible refine Keeps.drew ?_) | (with_reducible refine Keeps.drewN ?_ _) | (with_reducible refine Keeps.trans ?_ (by assumption) (fun _ _ h => h))))) (fun _ _ h => h)).mono (fun b hb => by have h1 := hkA.size; have h2 : b < w6.heap.size := hb; simp at h1 ⊢; omega)) hBA.lt).mono ?_; rintro e w8 ⟨hk8, A8, c8, rfl, hp8⟩; go_wp2_with fail; have hBA := hBA.keeps (X := fun _ => False) (show Keeps (fun _ => False) _ w8 from (by repeat (first | (with_reducible exact Keeps.refl _ _) | (with_reducible refine Keeps.drew ?_) | (with_reducible refine Keeps.drewN ?_ _) | (with_reducible refine Keeps.trans ?_ (by assumption) (fun _ _ h => h))))) (fun h => h))
              refine hK.out _ _ (fun _ => ?_) (fun hE => ?_)
              · exact hQ.out _ (by repeat (first | (with_reducible exact Keeps.refl _ _) | (with_reducible refine Keeps.drew ?_) | (with_reducible refine Keeps.drewN ?_ _) | (with_reducible refine Keeps.trans ?_ (by assumption) (fun _ _ h => h))))
              have hS := hE (by kernel_rfl)
              clear hK K hE
              try simp only [Act.put, List.setIfInBounds_toArray, List.set_cons_zero, List.set_cons_succ]
              refine wpAnyT_pure (i := 9) (oi := { dst := some 36, op := Op.move (Operand.tmp 45), type := 29, pos := "types.go:689", after := #[⟨8, .data⟩], guard := none }) (v := ?v5_9_12) rfl (by kernel_rfl) (fun _ _ _ h => h) (Or.inl ⟨by rfl, ?y5_9_12⟩) (fun _ => hS) ?_
              case y5_9_12 => (intro w hSw; go_simp; try with_reducible rfl)
              try simp only [Act.put, List.setIfInBounds_toArray, List.set_cons_zero, List.set_cons_succ]
              refine wpAnyT_pure (i := 10) (oi := { dst := some 46, op := Op.extract (Operand.tmp 36) 0, type := 27, pos := "types.go:689", after := #[⟨9, .data⟩], guard := none }) (v := ?v5_10_13) rfl (by kernel_rfl) (fun _ _ _ h => h) (Or.inl ⟨by rfl, ?y5_10_13⟩) (fun _ => hS) ?_
              case y5_10_13 => (intro w hSw; go_simp; try with_reducible rfl)
              try simp only [Act.put, List.setIfInBounds_toArray, List.set_cons_zero, List.set_cons_succ]
              refine wpAnyT_pure (i := 11) (oi := { dst := some 47, op := Op.extract (Operand.tmp 36) 1, type := 28, pos := "types.go:689", after := #[⟨9, .data⟩, ⟨13, .gcOnly .lateStores⟩], guard := none }) (v := ?v5_11_14) rfl (by kernel_rfl) (fun _ _ _ h => h) (Or.inl ⟨by rfl, ?y5_11_14⟩) (fun _ => hS) ?_
              case y5_11_14 => (intro w hSw; go_simp; try with_reducible rfl)
              try simp only [Act.put, List.setIfInBounds_toArray, List.set_cons_zero, List.set_cons_succ]
              refine wpAnyT_ready (rs := [13]) (by kernel_rfl) rfl ?_
              refine AllT.cons (o := { dst := none, op := Op.store 27 (Operand.tmp 15) (Operand.tmp 46), type := 0, pos := "types.go:689", after := #[⟨12, .data⟩, ⟨10, .data⟩, ⟨8, .chain⟩, ⟨0, .phase⟩, ⟨1, .phase⟩, ⟨2, .phase⟩, ⟨3, .phase⟩, ⟨4, .phase⟩, ⟨5, .phase⟩, ⟨6, .phase⟩, ⟨7, .phase⟩, ⟨8, .phase⟩, ⟨9, .phase⟩, ⟨10, .phase⟩, ⟨11, .textOnly .lateStores⟩, ⟨12, .phase⟩], guard := none }) rfl (fun K hK => ?_) ?_
              · (have r0 := hBA.cell (i := 0) rfl; have r1 := hBA.cell (i := 1) rfl; have r2 := hBA.cell (i := 2) rfl; have f0 := hBA.free 0; have f1 := hBA.free 1; have f2 := hBA.free 2; have hlA := hBA.lt; go_simp)
                refine hK.out _ _ (fun he => Bool.noConfusion (show false = true from he)) (fun hE => ?_)
                clear hK K hE
                try simp only [Act.put, List.setIfInBounds_toArray, List.set_cons_zero, List.set_cons_succ]
                refine wpAnyT_ready (rs := [14]) (by kernel_rfl) rfl ?_
                refine AllT.cons (o := { dst := some 16, op := Op.assign (Operand.tmp 47), type := 28, pos := "types.go:689", after := #[⟨11, .data⟩, ⟨13, .chain⟩, ⟨0, .phase⟩, ⟨1, .phase⟩, ⟨2, .phase⟩, ⟨3, .phase⟩, ⟨4, .phase⟩, ⟨5, .phase⟩, ⟨6, .phase⟩, ⟨7, .phase⟩, ⟨8, .phase⟩, ⟨9, .phase⟩, ⟨10, .phase⟩, ⟨11, .phase⟩, ⟨12, .phase⟩, ⟨13, .phase⟩], guard := none }) rfl (fun K hK => ?_) ?_
                · go_simp
                  refine hK.out _ _ (fun he => Bool.noConfusion (show false = true from he)) (fun hE => ?_)
                  clear hK K hE
                  try simp only [Act.put, List.setIfInBounds_toArray, List.set_cons_zero, List.set_cons_succ]
                  refine wpAnyT_done (by kernel_rfl) ?_ _
                  refine NoPanic.normal ?_
                  obtain ⟨hB3, hK3⟩ := three hBA (.int .i64 p2.kind) (.int .i64 p2.num) (.slice A8 p2.subs.length c8)
                  have hkf := Keeps.trans (show Keeps (fun _ => False) W4 _ from (by repeat (first | (with_reducible exact Keeps.refl _ _) | (with_reducible refine Keeps.drew ?_) | (with_reducible refine Keeps.drewN ?_ _) | (with_reducible refine Keeps.trans ?_ (by assumption) (fun _ _ h => h))))) hK3 (fun i hi h => by have h2 : i = _ := h; omega)
                  have hpf := pf_final hp8 hK3
                  have HB3 := Lib.hid hB3
                  have HKF := Lib.hid hkf
                  have HPF := Lib.hid hpf
                  clear hB3 hkf hpf hK3
                  go_wp2_with fail
                  go_meet
                  exact ⟨_, A8, c8, rfl, rfl, HB3.out, HPF.out, HKF.out⟩
                exact AllT.nil
              exact AllT.nil
            exact AllT.nil
          exact AllT.nil
        exact AllT.nil
      refine AllT.cons (o := { dst := some 15, op := Op.alloc 27, type := 0, pos := "types.go:689", after := #[], guard := none }) rfl (fun K hK => ?_) ?_
      · (go_simp; refine name_world ?_; intro wA hwA; (first | (obtain ⟨hBA, hkA, hgA⟩ := blk_of_alloc (V := W4) (cs := [.int .i64 0, .int .i64 0, .slice none 0 0]) hwA (by repeat (first | (with_reducible exact Keeps.refl _ _) | (with_reducible refine Keeps.drew ?_) | (with_reducible refine Keeps.drewN ?_ _) | (with_reducible refine Keeps.trans ?_ (by assumption) (fun _ _ h => h))))) | (obtain ⟨hBA, hkA, hgA⟩ := blk_of_alloc_d (V := W4) (cs := [.int .i64 0, .int .i64 0, .slice none 0 0]) hwA (by repeat (first | (with_reducible exact Keeps.refl _ _) | (with_reducible refine Keeps.drew ?_) | (with_reducible refine Keeps.drewN ?_ _) | (with_reducible refine Keeps.trans ?_ (by assumption) (fun _ _ h => h)))))); clear hwA)
        refine hK.out _ _ (fun _ => ?_) (fun hE => ?_)
        · exact hQ.out _ (by repeat (first | (with_reducible exact Keeps.refl _ _) | (with_reducible refine Keeps.drew ?_) | (with_reducible refine Keeps.drewN ?_ _) | (with_reducible refine Keeps.trans ?_ (by assumption) (fun _ _ h => h))))
        have hS := hE (by kernel_rfl)
        clear hK K hE
        try simp only [Act.put, List.setIfInBounds_toArray, List.set_cons_zero, List.set_cons_succ]
        refine wpAnyT_ready (rs := [5]) (by kernel_rfl) rfl ?_
        refine AllT.cons (o := { dst := some 42, op := Op.buildSlice 36 1 #[(0, Operand.tmp 41)], type := 36, pos := "types.go:689", after := #[⟨4, .data⟩], guard := none }) rfl (fun K hK => ?_) ?_
        · (go_simp; refine name_world ?_; intro w5 hw5; (first | (obtain ⟨hB5, hk5, _⟩ := blk_of_alloc (V := W4) (cs := [.string more.cls, .int .i64 more.ty.kind, .string more.ty.name, .int .i64 more.ty.var, .slice Am more.ty.args.length cm]) hw5 (by repeat (first | (with_reducible exact Keeps.refl _ _) | (with_reducible refine Keeps.drew ?_) | (with_reducible refine Keeps.drewN ?_ _) | (with_reducible refine Keeps.trans ?_ (by assumption) (fun _ _ h => h))))) | (obtain ⟨hB5, hk5, _⟩ := blk_of_alloc_d (V := W4) (cs := [.string more.cls, .int .i64 more.ty.kind, .string more.ty.name, .int .i64 more.ty.var, .slice Am more.ty.args.length cm]) hw5 (by repeat (first | (with_reducible exact Keeps.refl _ _) | (with_reducible refine Keeps.drew ?_) | (with_reducible refine Keeps.drewN ?_ _) | (with_reducible refine Keeps.trans ?_ (by assumption) (fun _ _ h => h)))))); clear hw5; have hBA := hBA.keeps (X := fun _ => False) (show Keeps (fun _ => False) _ w5 from (by repeat (first | (with_reducible exact Keeps.refl _ _) | (with_reducible refine Keeps.drew ?_) | (with_reducible refine Keeps.drewN ?_ _) | (with_reducible refine Keeps.trans ?_ (by assumption) (fun _ _ h => h))))) (fun h => h))
          refine hK.out _ _ (fun _ => ?_) (fun hE => ?_)
          · exact hQ.out _ (by repeat (first | (with_reducible exact Keeps.refl _ _) | (with_reducible refine Keeps.drew ?_) | (with_reducible refine Keeps.drewN ?_ _) | (with_reducible refine Keeps.trans ?_ (by assumption) (fun _ _ h => h))))
          have hS := hE (by kernel_rfl)
          clear hK K hE
          try simp only [Act.put, List.setIfInBounds_toArray, List.set_cons_zero, List.set_cons_succ]
          refine wpAnyT_ready (rs := [6]) (by kernel_rfl) rfl ?_
          refine AllT.cons (o := { dst := some 43, op := Op.call { callee := Callee.builtin Builtin.append, args := #[Operand.tmp 40, Operand.tmp 42], argTypes := #[36, 36] }, type := 36, pos := "types.go:689", after := #[⟨3, .data⟩, ⟨5, .data⟩, ⟨3, .chain⟩], guard := none }) rfl (fun K hK => ?_) ?_
          · (refine step_append_kept2 (W0 := wq) rfl (.tmp 40) (.tmp 42) 36 rfl B0 35 i0 _ 5 72 Tryd.underlying36 hi0 hz0 hz1 hz2 rfl (by decide) u hs.length xs rfl hown (by repeat (first | (with_reducible exact Keeps.refl _ _) | (with_reducible refine Keeps.drew ?_) | (with_reducible refine Keeps.drewN ?_ _) | (with_reducible refine Keeps.trans ?_ (by assumption) (fun _ _ h => h)))) _ _ #[.string more.cls, .int .i64 more.ty.kind, .string more.ty.name, .int .i64 more.ty.var, .slice Am more.ty.args.length cm] rfl rfl hB5 (by simp [Value.oneCell']) HMq.out HBq.out (by have h1 := Keeps.size (show Keeps (fun _ => False) W4 wq from (by repeat (first | (with_reducible exact Keeps.refl _ _) | (with_reducible refine Keeps.drew ?_) | (with_reducible refine Keeps.drewN ?_ _) | (with_reducible refine Keeps.trans ?_ (by assumption) (fun _ _ h => h))))); have h2 := HB0.out; omega) ?_; intro g1 cap1 w6 hown1 hk1 hkp1 hat1; have hBA : Blk w6 _ _ _ := hkp1 _ _ hBA (own_ne_blk (own_keeps hown (show Keeps (fun _ => False) wq _ from (by repeat (first | (with_reducible exact Keeps.refl _ _) | (with_reducible refine Keeps.drew ?_) | (with_reducible refine Keeps.drewN ?_ _) | (with_reducible refine Keeps.trans ?_ (by assumption) (fun _ _ h => h))))) (fun _ _ h => h)) hBA (by decide)); have hsl6 := pred_more HQ2.out.1 HQ2.out.2 hxs (show Keeps (fun _ => False) W4 wq from (by repeat (first | (with_reducible exact Keeps.refl _ _) | (with_reducible refine Keeps.drew ?_) | (with_reducible refine Keeps.drewN ?_ _) | (with_reducible refine Keeps.trans ?_ (by assumption) (fun _ _ h => h))))) hk1 (fun i h => (hown.lt i h).1) hown1 HWT.out; have hk46 : Keeps (fun _ => False) W4 w6 := Keeps.trans (show Keeps (fun _ => False) W4 wq from (by repeat (first | (with_reducible exact Keeps.refl _ _) | (with_reducible refine Keeps.drew ?_) | (with_reducible refine Keeps.drewN ?_ _) | (with_reducible refine Keeps.trans ?_ (by assumption) (fun _ _ h => h))))) hk1 (fun i hi h => by have h1 := (hown.lt i h).1; have h2 := HB0.out; omega))
            refine hK.out _ _ (fun _ => ?_) (fun hE => ?_)
            · exact hQ.out _ (by repeat (first | (with_reducible exact Keeps.refl _ _) | (with_reducible refine Keeps.drew ?_) | (with_reducible refine Keeps.drewN ?_ _) | (with_reducible refine Keeps.trans ?_ (by assumption) (fun _ _ h => h))))
            have hS := hE (by kernel_rfl)
            clear hK K hE
            try simp only [Act.put, List.setIfInBounds_toArray, List.set_cons_zero, List.set_cons_succ]
            refine wpAnyT_ready (rs := [8]) (by kernel_rfl) rfl ?_
            refine AllT.cons (o := { dst := some 45, op := Op.call { callee := Callee.value (Operand.func 7), args := #[Operand.tmp 37, Operand.tmp 38, Operand.tmp 43, Operand.tmp 44], argTypes := #[31, 45, 36, 35] }, type := 29, pos := "types.go:689", after := #[⟨0, .data⟩, ⟨1, .data⟩, ⟨6, .data⟩, ⟨7, .data⟩, ⟨6, .chain⟩], guard := none }) rfl (fun K hK => ?_) ?_
            · (go_simp; go_at_call 7; with_reducible refine (HEn2.out _ _ _ (by repeat (first | (with_reducible exact Keeps.refl _ _) | (with_reducible refine Keeps.drew ?_) | (with_reducible refine Keeps.drewN ?_ _) | (with_reducible refine Keeps.trans ?_ (by assumption) (fun _ _ h => h)))) (by first | exact hsl6 | exact (hsl6.keeps (show Keeps (fun _ => False) w6 _ from (by repeat (first | (with_reducible exact Keeps.refl _ _) | (with_reducible refine Keeps.drew ?_) | (with_reducible refine Keeps.drewN ?_ _) | (with_reducible refine Keeps.trans ?_ (by assumption) (fun _ _ h => h))))) (fun _ _ h => h)).mono (fun b hb => by have h1 := hkA.size; have h2 : b < w6.heap.size := hb; simp at h1 ⊢; omega)) hBA.lt).mono ?_; rintro e w8 ⟨hk8, A8, c8, rfl, hp8⟩; go_wp2_with fail; have hBA := hBA.keeps (X := fun _ => False) (show Keeps (fun _ => False) _ w8 from (by repeat (first | (with_reducible exact Keeps.refl _ _) | (with_reducible refine Keeps.drew ?_) | (with_reducible refine Keeps.drewN ?_ _) | (with_reducible refine Keeps.trans ?_ (by assumption) (fun _ _ h => h))))) (fun h => h))
              refine hK.out _ _ (fun _ => ?_) (fun hE => ?_)
              · exact hQ.out _ (by repeat (first | (with_reducible exact Keeps.refl _ _) | (with_reducible refine Keeps.drew ?_) | (with_reducible refine Keeps.drewN ?_ _) | (with_reducible refine Keeps.trans ?_ (by assumption) (fun _ _ h => h))))
              have hS := hE (by kernel_rfl)
              clear hK K hE
              try simp only [Act.put, List.setIfInBounds_toArray, List.set_cons_zero, List.set_cons_succ]
              refine wpAnyT_pure (i := 9) (oi := { dst := some 36, op := Op.move (Operand.tmp 45), type := 29, pos := "types.go:689", after := #[⟨8, .data⟩], guard := none }) (v := ?v5_9_15) rfl (by kernel_rfl) (fun _ _ _ h => h) (Or.inl ⟨by rfl, ?y5_9_15⟩) (fun _ => hS) ?_
              case y5_9_15 => (intro w hSw; go_simp; try with_reducible rfl)
              try simp only [Act.put, List.setIfInBounds_toArray, List.set_cons_zero, List.set_cons_succ]
              refine wpAnyT_pure (i := 10) (oi := { dst := some 46, op := Op.extract (Operand.tmp 36) 0, type := 27, pos := "types.go:689", after := #[⟨9, .data⟩], guard := none }) (v := ?v5_10_16) rfl (by kernel_rfl) (fun _ _ _ h => h) (Or.inl ⟨by rfl, ?y5_10_16⟩) (fun _ => hS) ?_
              case y5_10_16 => (intro w hSw; go_simp; try with_reducible rfl)
              try simp only [Act.put, List.setIfInBounds_toArray, List.set_cons_zero, List.set_cons_succ]
              refine wpAnyT_pure (i := 11) (oi := { dst := some 47, op := Op.extract (Operand.tmp 36) 1, type := 28, pos := "types.go:689", after := #[⟨9, .data⟩, ⟨13, .gcOnly .lateStores⟩], guard := none }) (v := ?v5_11_17) rfl (by kernel_rfl) (fun _ _ _ h => h) (Or.inl ⟨by rfl, ?y5_11_17⟩) (fun _ => hS) ?_
              case y5_11_17 => (intro w hSw; go_simp; try with_reducible rfl)
              try simp only [Act.put, List.setIfInBounds_toArray, List.set_cons_zero, List.set_cons_succ]
              refine wpAnyT_ready (rs := [13]) (by kernel_rfl) rfl ?_
              refine AllT.cons (o := { dst := none, op := Op.store 27 (Operand.tmp 15) (Operand.tmp 46), type := 0, pos := "types.go:689", after := #[⟨12, .data⟩, ⟨10, .data⟩, ⟨8, .chain⟩, ⟨0, .phase⟩, ⟨1, .phase⟩, ⟨2, .phase⟩, ⟨3, .phase⟩, ⟨4, .phase⟩, ⟨5, .phase⟩, ⟨6, .phase⟩, ⟨7, .phase⟩, ⟨8, .phase⟩, ⟨9, .phase⟩, ⟨10, .phase⟩, ⟨11, .textOnly .lateStores⟩, ⟨12, .phase⟩], guard := none }) rfl (fun K hK => ?_) ?_
              · (have r0 := hBA.cell (i := 0) rfl; have r1 := hBA.cell (i := 1) rfl; have r2 := hBA.cell (i := 2) rfl; have f0 := hBA.free 0; have f1 := hBA.free 1; have f2 := hBA.free 2; have hlA := hBA.lt; go_simp)
                refine hK.out _ _ (fun he => Bool.noConfusion (show false = true from he)) (fun hE => ?_)
                clear hK K hE
                try simp only [Act.put, List.setIfInBounds_toArray, List.set_cons_zero, List.set_cons_succ]
                refine wpAnyT_ready (rs := [14]) (by kernel_rfl) rfl ?_
                refine AllT.cons (o := { dst := some 16, op := Op.assign (Operand.tmp 47), type := 28, pos := "types.go:689", after := #[⟨11, .data⟩, ⟨13, .chain⟩, ⟨0, .phase⟩, ⟨1, .phase⟩, ⟨2, .phase⟩, ⟨3, .phase⟩, ⟨4, .phase⟩, ⟨5, .phase⟩, ⟨6, .phase⟩, ⟨7, .phase⟩, ⟨8, .phase⟩, ⟨9, .phase⟩, ⟨10, .phase⟩, ⟨11, .phase⟩, ⟨12, .phase⟩, ⟨13, .phase⟩], guard := none }) rfl (fun K hK => ?_) ?_
                · go_simp
                  refine hK.out _ _ (fun he => Bool.noConfusion (show false = true from he)) (fun hE => ?_)
                  clear hK K hE
                  try simp only [Act.put, List.setIfInBounds_toArray, List.set_cons_zero, List.set_cons_succ]
                  refine wpAnyT_done (by kernel_rfl) ?_ _
                  refine NoPanic.normal ?_
                  obtain ⟨hB3, hK3⟩ := three hBA (.int .i64 p2.kind) (.int .i64 p2.num) (.slice A8 p2.subs.length c8)
                  have hkf := Keeps.trans (show Keeps (fun _ => False) W4 _ from (by repeat (first | (with_reducible exact Keeps.refl _ _) | (with_reducible refine Keeps.drew ?_) | (with_reducible refine Keeps.drewN ?_ _) | (with_reducible refine Keeps.trans ?_ (by assumption) (fun _ _ h => h))))) hK3 (fun i hi h => by have h2 : i = _ := h; omega)
                  have hpf := pf_final hp8 hK3
                  have HB3 := Lib.hid hB3
                  have HKF := Lib.hid hkf
                  have HPF := Lib.hid hpf
                  clear hB3 hkf hpf hK3
                  go_wp2_with fail
                  go_meet
                  exact ⟨_, A8, c8, rfl, rfl, HB3.out, HPF.out, HKF.out⟩
                exact AllT.nil
              exact AllT.nil
            exact AllT.nil
          exact AllT.nil
        exact AllT.nil
      exact AllT.nil
    refine AllT.cons (o := { dst := some 42, op := Op.buildSlice 36 1 #[(0, Operand.tmp 41)], type := 36, pos := "types.go:689", after := #[⟨4, .data⟩], guard := none }) rfl (fun K hK => ?_) ?_
    · (go_simp; refine name_world ?_; intro w5 hw5; (first | (obtain ⟨hB5, hk5, _⟩ := blk_of_alloc (V := W4) (cs := [.string more.cls, .int .i64 more.ty.kind, .string more.ty.name, .int .i64 more.ty.var, .slice Am more.ty.args.length cm]) hw5 (by repeat (first | (with_reducible exact Keeps.refl _ _) | (with_reducible refine Keeps.drew ?_) | (with_reducible refine Keeps.drewN ?_ _) | (with_reducible refine Keeps.trans ?_ (by assumption) (fun _ _ h => h))))) | (obtain ⟨hB5, hk5, _⟩ := blk_of_alloc_d (V := W4) (cs := [.string more.cls, .int .i64 more.ty.kind, .string more.ty.name, .int .i64 more.ty.var, .slice Am more.ty.args.length cm]) hw5 (by repeat (first | (with_reducible exact Keeps.refl _ _) | (with_reducible refine Keeps.drew ?_) | (with_reducible refine Keeps.drewN ?_ _) | (with_reducible refine Keeps.trans ?_ (by assumption) (fun _ _ h => h)))))); clear hw5)
      refine hK.out _ _ (fun _ => ?_) (fun hE => ?_)
      · exact hQ.out _ (by repeat (first | (with_reducible exact Keeps.refl _ _) | (with_reducible refine Keeps.drew ?_) | (with_reducible refine Keeps.drewN ?_ _) | (with_reducible refine Keeps.trans ?_ (by assumption) (fun _ _ h => h))))
      have hS := hE (by kernel_rfl)
      clear hK K hE
      try simp only [Act.put, List.setIfInBounds_toArray, List.set_cons_zero, List.set_cons_succ]
      refine wpAnyT_ready (rs := [3, 12]) (by kernel_rfl) rfl ?_
      refine AllT.cons (o := { dst := some 40, op := Op.call { callee := Callee.value (Operand.func 13), args := #[Operand.tmp 39], argTypes := #[36] }, type := 36, pos := "types.go:689", after := #[⟨2, .data⟩], guard := none }) rfl (fun K hK => ?_) ?_
      · (go_simp; go_at_call 13; with_reducible refine (HCl5.out _ (by repeat (first | (with_reducible exact Keeps.refl _ _) | (with_reducible refine Keeps.drew ?_) | (with_reducible refine Keeps.drewN ?_ _) | (with_reducible refine Keeps.trans ?_ (by assumption) (fun _ _ h => h))))).mono ?_; rintro e wq ⟨u, xs, rfl, hown, hxs, hkq⟩; go_wp2_with fail; have hB5 := hB5.keeps (X := fun _ => False) (show Keeps (fun _ => False) _ wq from (by repeat (first | (with_reducible exact Keeps.refl _ _) | (with_reducible refine Keeps.drew ?_) | (with_reducible refine Keeps.drewN ?_ _) | (with_reducible refine Keeps.trans ?_ (by assumption) (fun _ _ h => h))))) (fun h => h))
        refine hK.out _ _ (fun _ => ?_) (fun hE => ?_)
        · exact hQ.out _ (by repeat (first | (with_reducible exact Keeps.refl _ _) | (with_reducible refine Keeps.drew ?_) | (with_reducible refine Keeps.drewN ?_ _) | (with_reducible refine Keeps.trans ?_ (by assumption) (fun _ _ h => h))))
        have hS := hE (by kernel_rfl)
        clear hK K hE
        try simp only [Act.put, List.setIfInBounds_toArray, List.set_cons_zero, List.set_cons_succ]
        refine wpAnyT_ready (rs := [6, 12]) (by kernel_rfl) rfl ?_
        refine AllT.cons (o := { dst := some 43, op := Op.call { callee := Callee.builtin Builtin.append, args := #[Operand.tmp 40, Operand.tmp 42], argTypes := #[36, 36] }, type := 36, pos := "types.go:689", after := #[⟨3, .data⟩, ⟨5, .data⟩, ⟨3, .chain⟩], guard := none }) rfl (fun K hK => ?_) ?_
        · (refine step_append_kept2 (W0 := wq) rfl (.tmp 40) (.tmp 42) 36 rfl B0 35 i0 _ 5 72 Tryd.underlying36 hi0 hz0 hz1 hz2 rfl (by decide) u hs.length xs rfl hown (by repeat (first | (with_reducible exact Keeps.refl _ _) | (with_reducible refine Keeps.drew ?_) | (with_reducible refine Keeps.drewN ?_ _) | (with_reducible refine Keeps.trans ?_ (by assumption) (fun _ _ h => h)))) _ _ #[.string more.cls, .int .i64 more.ty.kind, .string more.ty.name, .int .i64 more.ty.var, .slice Am more.ty.args.length cm] rfl rfl hB5 (by simp [Value.oneCell']) HMq.out HBq.out (by have h1 := Keeps.size (show Keeps (fun _ => False) W4 wq from (by repeat (first | (with_reducible exact Keeps.refl _ _) | (with_reducible refine Keeps.drew ?_) | (with_reducible refine Keeps.drewN ?_ _) | (with_reducible refine Keeps.trans ?_ (by assumption) (fun _ _ h => h))))); have h2 := HB0.out; omega) ?_; intro g1 cap1 w6 hown1 hk1 hkp1 hat1; have hsl6 := pred_more HQ2.out.1 HQ2.out.2 hxs (show Keeps (fun _ => False) W4 wq from (by repeat (first | (with_reducible exact Keeps.refl _ _) | (with_reducible refine Keeps.drew ?_) | (with_reducible refine Keeps.drewN ?_ _) | (with_reducible refine Keeps.trans ?_ (by assumption) (fun _ _ h => h))))) hk1 (fun i h => (hown.lt i h).1) hown1 HWT.out; have hk46 : Keeps (fun _ => False) W4 w6 := Keeps.trans (show Keeps (fun _ => False) W4 wq from (by repeat (first | (with_reducible exact Keeps.refl _ _) | (with_reducible refine Keeps.drew ?_) | (with_reducible refine Keeps.drewN ?_ _) | (with_reducible refine Keeps.trans ?_ (by assumption) (fun _ _ h => h))))) hk1 (fun i hi h => by have h1 := (hown.lt i h).1; have h2 := HB0.out; omega))
          refine hK.out _ _ (fun _ => ?_) (fun hE => ?_)
          · exact hQ.out _ (by repeat (first | (with_reducible exact Keeps.refl _ _) | (with_reducible refine Keeps.drew ?_) | (with_reducible refine Keeps.drewN ?_ _) | (with_reducible refine Keeps.trans ?_ (by assumption) (fun _ _ h => h))))
          have hS := hE (by kernel_rfl)
          clear hK K hE
          try simp only [Act.put, List.setIfInBounds_toArray, List.set_cons_zero, List.set_cons_succ]
          refine wpAnyT_ready (rs := [8, 12]) (by kernel_rfl) rfl ?_
          refine AllT.cons (o := { dst := some 45, op := Op.call { callee := Callee.value (Operand.func 7), args := #[Operand.tmp 37, Operand.tmp 38, Operand.tmp 43, Operand.tmp 44], argTypes := #[31, 45, 36, 35] }, type := 29, pos := "types.go:689", after := #[⟨0, .data⟩, ⟨1, .data⟩, ⟨6, .data⟩, ⟨7, .data⟩, ⟨6, .chain⟩], guard := none }) rfl (fun K hK => ?_) ?_
          · (go_simp; go_at_call 7; with_reducible refine (HEn2.out _ _ b8 (by repeat (first | (with_reducible exact Keeps.refl _ _) | (with_reducible refine Keeps.drew ?_) | (with_reducible refine Keeps.drewN ?_ _) | (with_reducible refine Keeps.trans ?_ (by assumption) (fun _ _ h => h)))) (by first | exact hsl6 | exact (hsl6.keeps (show Keeps (fun _ => False) w6 _ from (by repeat (first | (with_reducible exact Keeps.refl _ _) | (with_reducible refine Keeps.drew ?_) | (with_reducible refine Keeps.drewN ?_ _) | (with_reducible refine Keeps.trans ?_ (by assumption) (fun _ _ h => h))))) (fun _ _ h => h)).mono (fun b hb => by have h1 := hkA.size; have h2 : b < w6.heap.size := hb; simp at h1 ⊢; omega)) (by have h1 := hk46.size; have h2 := HB8W.out; omega)).mono ?_; rintro e w8 ⟨hk8, A8, c8, rfl, hp8⟩; go_wp2_with fail)
            refine hK.out _ _ (fun _ => ?_) (fun hE => ?_)
            · exact hQ.out _ (by repeat (first | (with_reducible exact Keeps.refl _ _) | (with_reducible refine Keeps.drew ?_) | (with_reducible refine Keeps.drewN ?_ _) | (with_reducible refine Keeps.trans ?_ (by assumption) (fun _ _ h => h))))
            have hS := hE (by kernel_rfl)
            clear hK K hE
            try simp only [Act.put, List.setIfInBounds_toArray, List.set_cons_zero, List.set_cons_succ]
            refine wpAnyT_pure (i := 9) (oi := { dst := some 36, op := Op.move (Operand.tmp 45), type := 29, pos := "types.go:689", after := #[⟨8, .data⟩], guard := none }) (v := ?v5_9_18) rfl (by kernel_rfl) (fun _ _ _ h => h) (Or.inl ⟨by rfl, ?y5_9_18⟩) (fun _ => hS) ?_
            case y5_9_18 => (intro w hSw; go_simp; try with_reducible rfl)
            try simp only [Act.put, List.setIfInBounds_toArray, List.set_cons_zero, List.set_cons_succ]
            refine wpAnyT_pure (i := 10) (oi := { dst := some 46, op := Op.extract (Operand.tmp 36) 0, type := 27, pos := "types.go:689", after := #[⟨9, .data⟩], guard := none }) (v := ?v5_10_19) rfl (by kernel_rfl) (fun _ _ _ h => h) (Or.inl ⟨by rfl, ?y5_10_19⟩) (fun _ => hS) ?_
            case y5_10_19 => (intro w hSw; go_simp; try with_reducible rfl)
            try simp only [Act.put, List.setIfInBounds_toArray, List.set_cons_zero, List.set_cons_succ]
            refine wpAnyT_pure (i := 11) (oi := { dst := some 47, op := Op.extract (Operand.tmp 36) 1, type := 28, pos := "types.go:689", after := #[⟨9, .data⟩, ⟨13, .gcOnly .lateStores⟩], guard := none }) (v := ?v5_11_20) rfl (by kernel_rfl) (fun _ _ _ h => h) (Or.inl ⟨by rfl, ?y5_11_20⟩) (fun _ => hS) ?_
            case y5_11_20 => (intro w hSw; go_simp; try with_reducible rfl)
            try simp only [Act.put, List.setIfInBounds_toArray, List.set_cons_zero, List.set_cons_succ]
            refine wpAnyT_ready (rs := [12]) (by kernel_rfl) rfl ?_
            refine AllT.cons (o := { dst := some 15, op := Op.alloc 27, type := 0, pos := "types.go:689", after := #[], guard := none }) rfl (fun K hK => ?_) ?_
            · (go_simp; refine name_world ?_; intro wA hwA; (first | (obtain ⟨hBA, hkA, hgA⟩ := blk_of_alloc (V := W4) (cs := [.int .i64 0, .int .i64 0, .slice none 0 0]) hwA (by repeat (first | (with_reducible exact Keeps.refl _ _) | (with_reducible refine Keeps.drew ?_) | (with_reducible refine Keeps.drewN ?_ _) | (with_reducible refine Keeps.trans ?_ (by assumption) (fun _ _ h => h))))) | (obtain ⟨hBA, hkA, hgA⟩ := blk_of_alloc_d (V := W4) (cs := [.int .i64 0, .int .i64 0, .slice none 0 0]) hwA (by repeat (first | (with_reducible exact Keeps.refl _ _) | (with_reducible refine Keeps.drew ?_) | (with_reducible refine Keeps.drewN ?_ _) | (with_reducible refine Keeps.trans ?_ (by assumption) (fun _ _ h => h)))))); clear hwA)
              refine hK.out _ _ (fun _ => ?_) (fun hE => ?_)
              · exact hQ.out _ (by repeat (first | (with_reducible exact Keeps.refl _ _) | (with_reducible refine Keeps.drew ?_) | (with_reducible refine Keeps.drewN ?_ _) | (with_reducible refine Keeps.trans ?_ (by assumption) (fun _ _ h => h))))
              have hS := hE (by kernel_rfl)
              clear hK K hE
              try simp only [Act.put, List.setIfInBounds_toArray, List.set_cons_zero, List.set_cons_succ]
              refine wpAnyT_ready (rs := [13]) (by kernel_rfl) rfl ?_
              refine AllT.cons (o := { dst := none, op := Op.store 27 (Operand.tmp 15) (Operand.tmp 46), type := 0, pos := "types.go:689", after := #[⟨12, .data⟩, ⟨10, .data⟩, ⟨8, .chain⟩, ⟨0, .phase⟩, ⟨1, .phase⟩, ⟨2, .phase⟩, ⟨3, .phase⟩, ⟨4, .phase⟩, ⟨5, .phase⟩, ⟨6, .phase⟩, ⟨7, .phase⟩, ⟨8, .phase⟩, ⟨9, .phase⟩, ⟨10, .phase⟩, ⟨11, .textOnly .lateStores⟩, ⟨12, .phase⟩], guard := none }) rfl (fun K hK => ?_) ?_
              · (have r0 := hBA.cell (i := 0) rfl; have r1 := hBA.cell (i := 1) rfl; have r2 := hBA.cell (i := 2) rfl; have f0 := hBA.free 0; have f1 := hBA.free 1; have f2 := hBA.free 2; have hlA := hBA.lt; go_simp)
                refine hK.out _ _ (fun he => Bool.noConfusion (show false = true from he)) (fun hE => ?_)
                clear hK K hE
                try simp only [Act.put, List.setIfInBounds_toArray, List.set_cons_zero, List.set_cons_succ]
                refine wpAnyT_ready (rs := [14]) (by kernel_rfl) rfl ?_
                refine AllT.cons (o := { dst := some 16, op := Op.assign (Operand.tmp 47), type := 28, pos := "types.go:689", after := #[⟨11, .data⟩, ⟨13, .chain⟩, ⟨0, .phase⟩, ⟨1, .phase⟩, ⟨2, .phase⟩, ⟨3, .phase⟩, ⟨4, .phase⟩, ⟨5, .phase⟩, ⟨6, .phase⟩, ⟨7, .phase⟩, ⟨8, .phase⟩, ⟨9, .phase⟩, ⟨10, .phase⟩, ⟨11, .phase⟩, ⟨12, .phase⟩, ⟨13, .phase⟩], guard := none }) rfl (fun K hK => ?_) ?_
                · go_simp
                  refine hK.out _ _ (fun he => Bool.noConfusion (show false = true from he)) (fun hE => ?_)
                  clear hK K hE
                  try simp only [Act.put, List.setIfInBounds_toArray, List.set_cons_zero, List.set_cons_succ]
                  refine wpAnyT_done (by kernel_rfl) ?_ _
                  refine NoPanic.normal ?_
                  obtain ⟨hB3, hK3⟩ := three hBA (.int .i64 p2.kind) (.int .i64 p2.num) (.slice A8 p2.subs.length c8)
                  have hkf := Keeps.trans (show Keeps (fun _ => False) W4 _ from (by repeat (first | (with_reducible exact Keeps.refl _ _) | (with_reducible refine Keeps.drew ?_) | (with_reducible refine Keeps.drewN ?_ _) | (with_reducible refine Keeps.trans ?_ (by assumption) (fun _ _ h => h))))) hK3 (fun i hi h => by have h2 : i = _ := h; omega)
                  have hpf := pf_final ((hp8.keeps hkA (fun _ _ h => h)).mono (fun b hb => ⟨(by have h3 := hb.2; omega : b ≠ _), by have h1 := hkA.size; have h3 := hb.2; omega⟩)) hK3
                  have HB3 := Lib.hid hB3
                  have HKF := Lib.hid hkf
                  have HPF := Lib.hid hpf
                  clear hB3 hkf hpf hK3
                  go_wp2_with fail
                  go_meet
                  exact ⟨_, A8, c8, rfl, rfl, HB3.out, HPF.out, HKF.out⟩
                exact AllT.nil
              exact AllT.nil
            exact AllT.nil
          refine AllT.cons (o := { dst := some 15, op := Op.alloc 27, type := 0, pos := "types.go:689", after := #[], guard := none }) rfl (fun K hK => ?_) ?_
          · (go_simp; refine name_world ?_; intro wA hwA; (first | (obtain ⟨hBA, hkA, hgA⟩ := blk_of_alloc (V := W4) (cs := [.int .i64 0, .int .i64 0, .slice none 0 0]) hwA (by repeat (first | (with_reducible exact Keeps.refl _ _) | (with_reducible refine Keeps.drew ?_) | (with_reducible refine Keeps.drewN ?_ _) | (with_reducible refine Keeps.trans ?_ (by assumption) (fun _ _ h => h))))) | (obtain ⟨hBA, hkA, hgA⟩ := blk_of_alloc_d (V := W4) (cs := [.int .i64 0, .int .i64 0, .slice none 0 0]) hwA (by repeat (first | (with_reducible exact Keeps.refl _ _) | (with_reducible refine Keeps.drew ?_) | (with_reducible refine Keeps.drewN ?_ _) | (with_reducible refine Keeps.trans ?_ (by assumption) (fun _ _ h => h)))))); clear hwA)
            refine hK.out _ _ (fun _ => ?_) (fun hE => ?_)
            · exact hQ.out _ (by repeat (first | (with_reducible exact Keeps.refl _ _) | (with_reducible refine Keeps.drew ?_) | (with_reducible refine Keeps.drewN ?_ _) | (with_reducible refine Keeps.trans ?_ (by assumption) (fun _ _ h => h))))
            have hS := hE (by kernel_rfl)
            clear hK K hE
            try simp only [Act.put, List.setIfInBounds_toArray, List.set_cons_zero, List.set_cons_succ]
            refine wpAnyT_ready (rs := [8]) (by kernel_rfl) rfl ?_
            refine AllT.cons (o := { dst := some 45, op := Op.call { callee := Callee.value (Operand.func 7), args := #[Operand.tmp 37, Operand.tmp 38, Operand.tmp 43, Operand.tmp 44], argTypes := #[31, 45, 36, 35] }, type := 29, pos := "types.go:689", after := #[⟨0, .data⟩, ⟨1, .data⟩, ⟨6, .data⟩, ⟨7, .data⟩, ⟨6, .chain⟩], guard := none }) rfl (fun K hK => ?_) ?_
            · (go_simp; go_at_call 7; with_reducible refine (HEn2.out _ _ _ (by repeat (first | (with_reducible exact Keeps.refl _ _) | (with_reducible refine Keeps.drew ?_) | (with_reducible refine Keeps.drewN ?_ _) | (with_reducible refine Keeps.trans ?_ (by assumption) (fun _ _ h => h)))) (by first | exact hsl6 | exact (hsl6.keeps (show Keeps (fun _ => False) w6 _ from (by repeat (first | (with_reducible exact Keeps.refl _ _) | (with_reducible refine Keeps.drew ?_) | (with_reducible refine Keeps.drewN ?_ _) | (with_reducible refine Keeps.trans ?_ (by assumption) (fun _ _ h => h))))) (fun _ _ h => h)).mono (fun b hb => by have h1 := hkA.size; have h2 : b < w6.heap.size := hb; simp at h1 ⊢; omega)) hBA.lt).mono ?_; rintro e w8 ⟨hk8, A8, c8, rfl, hp8⟩; go_wp2_with fail; have hBA := hBA.keeps (X := fun _ => False) (show Keeps (fun _ => False) _ w8 from (by repeat (first | (with_reducible exact Keeps.refl _ _) | (with_reducible refine Keeps.drew ?_) | (with_reducible refine Keeps.drewN ?_ _) | (with_reducible refine Keeps.trans ?_ (by assumption) (fun _ _ h => h))))) (fun h => h))
              refine hK.out _ _ (fun _ => ?_) (fun hE => ?_)
              · exact hQ.out _ (by repeat (first | (with_reducible exact Keeps.refl _ _) | (with_reducible refine Keeps.drew ?_) | (with_reducible refine Keeps.drewN ?_ _) | (with_reducible refine Keeps.trans ?_ (by assumption) (fun _ _ h => h))))
              have hS := hE (by kernel_rfl)
              clear hK K hE
              try simp only [Act.put, List.setIfInBounds_toArray, List.set_cons_zero, List.set_cons_succ]
              refine wpAnyT_pure (i := 9) (oi := { dst := some 36, op := Op.move (Operand.tmp 45), type := 29, pos := "types.go:689", after := #[⟨8, .data⟩], guard := none }) (v := ?v5_9_21) rfl (by kernel_rfl) (fun _ _ _ h => h) (Or.inl ⟨by rfl, ?y5_9_21⟩) (fun _ => hS) ?_
              case y5_9_21 => (intro w hSw; go_simp; try with_reducible rfl)
              try simp only [Act.put, List.setIfInBounds_toArray, List.set_cons_zero, List.set_cons_succ]
              refine wpAnyT_pure (i := 10) (oi := { dst := some 46, op := Op.extract (Operand.tmp 36) 0, type := 27, pos := "types.go:689", after := #[⟨9, .data⟩], guard := none }) (v := ?v5_10_22) rfl (by kernel_rfl) (fun _ _ _ h => h) (Or.inl ⟨by rfl, ?y5_10_22⟩) (fun _ => hS) ?_
              case y5_10_22 => (intro w hSw; go_simp; try with_reducible rfl)
              try simp only [Act.put, List.setIfInBounds_toArray, List.set_cons_zero, List.set_cons_succ]
              refine wpAnyT_pure (i := 11) (oi := { dst := some 47, op := Op.extract (Operand.tmp 36) 1, type := 28, pos := "types.go:689", after := #[⟨9, .data⟩, ⟨13, .gcOnly .lateStores⟩], guard := none }) (v := ?v5_11_23) rfl (by kernel_rfl) (fun _ _ _ h => h) (Or.inl ⟨by rfl, ?y5_11_23⟩) (fun _ => hS) ?_
              case y5_11_23 => (intro w hSw; go_simp; try with_reducible rfl)
              try simp only [Act.put, List.setIfInBounds_toArray, List.set_cons_zero, List.set_cons_succ]
              refine wpAnyT_ready (rs := [13]) (by kernel_rfl) rfl ?_
              refine AllT.cons (o := { dst := none, op := Op.store 27 (Operand.tmp 15) (Operand.tmp 46), type := 0, pos := "types.go:689", after := #[⟨12, .data⟩, ⟨10, .data⟩, ⟨8, .chain⟩, ⟨0, .phase⟩, ⟨1, .phase⟩, ⟨2, .phase⟩, ⟨3, .phase⟩, ⟨4, .phase⟩, ⟨5, .phase⟩, ⟨6, .phase⟩, ⟨7, .phase⟩, ⟨8, .phase⟩, ⟨9, .phase⟩, ⟨10, .phase⟩, ⟨11, .textOnly .lateStores⟩, ⟨12, .phase⟩], guard := none }) rfl (fun K hK => ?_) ?_
              · (have r0 := hBA.cell (i := 0) rfl; have r1 := hBA.cell (i := 1) rfl; have r2 := hBA.cell (i := 2) rfl; have f0 := hBA.free 0; have f1 := hBA.free 1; have f2 := hBA.free 2; have hlA := hBA.lt; go_simp)
                refine hK.out _ _ (fun he => Bool.noConfusion (show false = true from he)) (fun hE => ?_)
                clear hK K hE
                try simp only [Act.put, List.setIfInBounds_toArray, List.set_cons_zero, List.set_cons_succ]
                refine wpAnyT_ready (rs := [14]) (by kernel_rfl) rfl ?_
                refine AllT.cons (o := { dst := some 16, op := Op.assign (Operand.tmp 47), type := 28, pos := "types.go:689", after := #[⟨11, .data⟩, ⟨13, .chain⟩, ⟨0, .phase⟩, ⟨1, .phase⟩, ⟨2, .phase⟩, ⟨3, .phase⟩, ⟨4, .phase⟩, ⟨5, .phase⟩, ⟨6, .phase⟩, ⟨7, .phase⟩, ⟨8, .phase⟩, ⟨9, .phase⟩, ⟨10, .phase⟩, ⟨11, .phase⟩, ⟨12, .phase⟩, ⟨13, .phase⟩], guard := none }) rfl (fun K hK => ?_) ?_
                · go_simp
                  refine hK.out _ _ (fun he => Bool.noConfusion (show false = true from he)) (fun hE => ?_)
                  clear hK K hE
                  try simp only [Act.put, List.setIfInBounds_toArray, List.set_cons_zero, List.set_cons_succ]
                  refine wpAnyT_done (by kernel_rfl) ?_ _
                  refine NoPanic.normal ?_
                  obtain ⟨hB3, hK3⟩ := three hBA (.int .i64 p2.kind) (.int .i64 p2.num) (.slice A8 p2.subs.length c8)
                  have hkf := Keeps.trans (show Keeps (fun _ => False) W4 _ from (by repeat (first | (with_reducible exact Keeps.refl _ _) | (with_reducible refine Keeps.drew ?_) | (with_reducible refine Keeps.drewN ?_ _) | (with_reducible refine Keeps.trans ?_ (by assumption) (fun _ _ h => h))))) hK3 (fun i hi h => by have h2 : i = _ := h; omega)
                  have hpf := pf_final hp8 hK3
                  have HB3 := Lib.hid hB3
                  have HKF := Lib.hid hkf
                  have HPF := Lib.hid hpf
                  clear hB3 hkf hpf hK3
                  go_wp2_with fail
                  go_meet
                  exact ⟨_, A8, c8, rfl, rfl, HB3.out, HPF.out, HKF.out⟩
                exact AllT.nil
              exact AllT.nil
            exact AllT.nil
          exact AllT.nil
        refine AllT.cons (o := { dst := some 15, op := Op.alloc 27, type := 0, pos := "types.go:689", after := #[], guard := none }) rfl (fun K hK => ?_) ?_
        · (go_simp; refine name_world ?_; intro wA hwA; (first | (obtain ⟨hBA, hkA, hgA⟩ := blk_of_alloc (V := W4) (cs := [.int .i64 0, .int .i64 0, .slice none 0 0]) hwA (by repeat (first | (with_reducible exact Keeps.refl _ _) | (with_reducible refine Keeps.drew ?_) | (with_reducible refine Keeps.drewN ?_ _) | (with_reducible refine Keeps.trans ?_ (by assumption) (fun _ _ h => h))))) | (obtain ⟨hBA, hkA, hgA⟩ := blk_of_alloc_d (V := W4) (cs := [.int .i64 0, .int .i64 0, .slice none 0 0]) hwA (by repeat (first | (with_reducible exact Keeps.refl _ _) | (with_reducible refine Keeps.drew ?_) | (with_reducible refine Keeps.drewN ?_ _) | (with_reducible refine Keeps.trans ?_ (by assumption) (fun _ _ h => h)))))); clear hwA; have hB5 := hB5.keeps (X := fun _ => False) (show Keeps (fun _ => False) _ wA from (by repeat (first | (with_reducible exact Keeps.refl _ _) | (with_reducible refine Keeps.drew ?_) | (with_reducible refine Keeps.drewN ?_ _) | (with_reducible refine Keeps.trans ?_ (by assumption) (fun _ _ h => h))))) (fun h => h))
          refine hK.out _ _ (fun _ => ?_) (fun hE => ?_)
          · exact hQ.out _ (by repeat (first | (with_reducible exact Keeps.refl _ _) | (with_reducible refine Keeps.drew ?_) | (with_reducible refine Keeps.drewN ?_ _) | (with_reducible refine Keeps.trans ?_ (by assumption) (fun _ _ h => h))))
          have hS := hE (by kernel_rfl)
          clear hK K hE
          try simp only [Act.put, List.setIfInBounds_toArray, List.set_cons_zero, List.set_cons_succ]
          refine wpAnyT_ready (rs := [6]) (by kernel_rfl) rfl ?_
          refine AllT.cons (o := { dst := some 43, op := Op.call { callee := Callee.builtin Builtin.append, args := #[Operand.tmp 40, Operand.tmp 42], argTypes := #[36, 36] }, type := 36, pos := "types.go:689", after := #[⟨3, .data⟩, ⟨5, .data⟩, ⟨3, .chain⟩], guard := none }) rfl (fun K hK => ?_) ?_
          · (refine step_append_kept2 (W0 := wq) rfl (.tmp 40) (.tmp 42) 36 rfl B0 35 i0 _ 5 72 Tryd.underlying36 hi0 hz0 hz1 hz2 rfl (by decide) u hs.length xs rfl hown (by repeat (first | (with_reducible exact Keeps.refl _ _) | (with_reducible refine Keeps.drew ?_) | (with_reducible refine Keeps.drewN ?_ _) | (with_reducible refine Keeps.trans ?_ (by assumption) (fun _ _ h => h)))) _ _ #[.string more.cls, .int .i64 more.ty.kind, .string more.ty.name, .int .i64 more.ty.var, .slice Am more.ty.args.length cm] rfl rfl hB5 (by simp [Value.oneCell']) HMq.out HBq.out (by have h1 := Keeps.size (show Keeps (fun _ => False) W4 wq from (by repeat (first | (with_reducible exact Keeps.refl _ _) | (with_reducible refine Keeps.drew ?_) | (with_reducible refine Keeps.drewN ?_ _) | (with_reducible refine Keeps.trans ?_ (by assumption) (fun _ _ h => h))))); have h2 := HB0.out; omega) ?_; intro g1 cap1 w6 hown1 hk1 hkp1 hat1; have hBA : Blk w6 _ _ _ := hkp1 _ _ hBA (own_ne_blk (own_keeps hown (show Keeps (fun _ => False) wq _ from (by repeat (first | (with_reducible exact Keeps.refl _ _) | (with_reducible refine Keeps.drew ?_) | (with_reducible refine Keeps.drewN ?_ _) | (with_reducible refine Keeps.trans ?_ (by assumption) (fun _ _ h => h))))) (fun _ _ h => h)) hBA (by decide)); have hsl6 := pred_more HQ2.out.1 HQ2.out.2 hxs (show Keeps (fun _ => False) W4 wq from (by repeat (first | (with_reducible exact Keeps.refl _ _) | (with_reducible refine Keeps.drew ?_) | (with_reducible refine Keeps.drewN ?_ _) | (with_reducible refine Keeps.trans ?_ (by assumption) (fun _ _ h => h))))) hk1 (fun i h => (hown.lt i h).1) hown1 HWT.out; have hk46 : Keeps (fun _ => False) W4 w6 := Keeps.trans (show Keeps (fun _ => False) W4 wq from (by repeat (first | (with_reducible exact Keeps.refl _ _) | (with_reducible refine Keeps.drew ?_) | (with_reducible refine Keeps.drewN ?_ _) | (with_reducible refine Keeps.trans ?_ (by assumption) (fun _ _ h => h))))) hk1 (fun i hi h => by have h1 := (hown.lt i h).1; have h2 := HB0.out; omega))
            refine hK.out _ _ (fun _ => ?_) (fun hE => ?_)
            · exact hQ.out _ (by repeat (first | (with_reducible exact Keeps.refl _ _) | (with_reducible refine Keeps.drew ?_) | (with_reducible refine Keeps.drewN ?_ _) | (with_reducible refine Keeps.trans ?_ (by assumption) (fun _ _ h => h))))
            have hS := hE (by kernel_rfl)
            clear hK K hE
            try simp only [Act.put, List.setIfInBounds_toArray, List.set_cons_zero, List.set_cons_succ]
            refine wpAnyT_ready (rs := [8]) (by kernel_rfl) rfl ?_
            refine AllT.cons (o := { dst := some 45, op := Op.call { callee := Callee.value (Operand.func 7), args := #[Operand.tmp 37, Operand.tmp 38, Operand.tmp 43, Operand.tmp 44], argTypes := #[31, 45, 36, 35] }, type := 29, pos := "types.go:689", after := #[⟨0, .data⟩, ⟨1, .data⟩, ⟨6, .data⟩, ⟨7, .data⟩, ⟨6, .chain⟩], guard := none }) rfl (fun K hK => ?_) ?_
            · (go_simp; go_at_call 7; with_reducible refine (HEn2.out _ _ _ (by repeat (first | (with_reducible exact Keeps.refl _ _) | (with_reducible refine Keeps.drew ?_) | (with_reducible refine Keeps.drewN ?_ _) | (with_reducible refine Keeps.trans ?_ (by assumption) (fun _ _ h => h)))) (by first | exact hsl6 | exact (hsl6.keeps (show Keeps (fun _ => False) w6 _ from (by repeat (first | (with_reducible exact Keeps.refl _ _) | (with_reducible refine Keeps.drew ?_) | (with_reducible refine Keeps.drewN ?_ _) | (with_reducible refine Keeps.trans ?_ (by assumption) (fun _ _ h => h))))) (fun _ _ h => h)).mono (fun b hb => by have h1 := hkA.size; have h2 : b < w6.heap.size := hb; simp at h1 ⊢; omega)) hBA.lt).mono ?_; rintro e w8 ⟨hk8, A8, c8, rfl, hp8⟩; go_wp2_with fail; have hBA := hBA.keeps (X := fun _ => False) (show Keeps (fun _ => False) _ w8 from (by repeat (first | (with_reducible exact Keeps.refl _ _) | (with_reducible refine Keeps.drew ?_) | (with_reducible refine Keeps.drewN ?_ _) | (with_reducible refine Keeps.trans ?_ (by assumption) (fun _ _ h => h))))) (fun h => h))
              refine hK.out _ _ (fun _ => ?_) (fun hE => ?_)
              · exact hQ.out _ (by repeat (first | (with_reducible exact Keeps.refl _ _) | (with_reducible refine Keeps.drew ?_) | (with_reducible refine Keeps.drewN ?_ _) | (with_reducible refine Keeps.trans ?_ (by assumption) (fun _ _ h => h))))
              have hS := hE (by kernel_rfl)
              clear hK K hE
              try simp only [Act.put, List.setIfInBounds_toArray, List.set_cons_zero, List.set_cons_succ]
              refine wpAnyT_pure (i := 9) (oi := { dst := some 36, op := Op.move (Operand.tmp 45), type := 29, pos := "types.go:689", after := #[⟨8, .data⟩], guard := none }) (v := ?v5_9_24) rfl (by kernel_rfl) (fun _ _ _ h => h) (Or.inl ⟨by rfl, ?y5_9_24⟩) (fun _ => hS) ?_
              case y5_9_24 => (intro w hSw; go_simp; try with_reducible rfl)
              try simp only [Act.put, List.setIfInBounds_toArray, List.set_cons_zero, List.set_cons_succ]
              refine wpAnyT_pure (i := 10) (oi := { dst := some 46, op := Op.extract (Operand.tmp 36) 0, type := 27, pos := "types.go:689", after := #[⟨9, .data⟩], guard := none }) (v := ?v5_10_25) rfl (by kernel_rfl) (fun _ _ _ h => h) (Or.inl ⟨by rfl, ?y5_10_25⟩) (fun _ => hS) ?_
              case y5_10_25 => (intro w hSw; go_simp; try with_reducible rfl)
              try simp only [Act.put, List.setIfInBounds_toArray, List.set_cons_zero, List.set_cons_succ]
              refine wpAnyT_pure (i := 11) (oi := { dst := some 47, op := Op.extract (Operand.tmp 36) 1, type := 28, pos := "types.go:689", after := #[⟨9, .data⟩, ⟨13, .gcOnly .lateStores⟩], guard := none }) (v := ?v5_11_26) rfl (by kernel_rfl) (fun _ _ _ h => h) (Or.inl ⟨by rfl, ?y5_11_26⟩) (fun _ => hS) ?_
              case y5_11_26 => (intro w hSw; go_simp; try with_reducible rfl)
              try simp only [Act.put, List.setIfInBounds_toArray, List.set_cons_zero, List.set_cons_succ]
              refine wpAnyT_ready (rs := [13]) (by kernel_rfl) rfl ?_
              refine AllT.cons (o := { dst := none, op := Op.store 27 (Operand.tmp 15) (Operand.tmp 46), type := 0, pos := "types.go:689", after := #[⟨12, .data⟩, ⟨10, .data⟩, ⟨8, .chain⟩, ⟨0, .phase⟩, ⟨1, .phase⟩, ⟨2, .phase⟩, ⟨3, .phase⟩, ⟨4, .phase⟩, ⟨5, .phase⟩, ⟨6, .phase⟩, ⟨7, .phase⟩, ⟨8, .phase⟩, ⟨9, .phase⟩, ⟨10, .phase⟩, ⟨11, .textOnly .lateStores⟩, ⟨12, .phase⟩], guard := none }) rfl (fun K hK => ?_) ?_
              · (have r0 := hBA.cell (i := 0) rfl; have r1 := hBA.cell (i := 1) rfl; have r2 := hBA.cell (i := 2) rfl; have f0 := hBA.free 0; have f1 := hBA.free 1; have f2 := hBA.free 2; have hlA := hBA.lt; go_simp)
                refine hK.out _ _ (fun he => Bool.noConfusion (show false = true from he)) (fun hE => ?_)
                clear hK K hE
                try simp only [Act.put, List.setIfInBounds_toArray, List.set_cons_zero, List.set_cons_succ]
                refine wpAnyT_ready (rs := [14]) (by kernel_rfl) rfl ?_
                refine AllT.cons (o := { dst := some 16, op := Op.assign (Operand.tmp 47), type := 28, pos := "types.go:689", after := #[⟨11, .data⟩, ⟨13, .chain⟩, ⟨0, .phase⟩, ⟨1, .phase⟩, ⟨2, .phase⟩, ⟨3, .phase⟩, ⟨4, .phase⟩, ⟨5, .phase⟩, ⟨6, .phase⟩, ⟨7, .phase⟩, ⟨8, .phase⟩, ⟨9, .phase⟩, ⟨10, .phase⟩, ⟨11, .phase⟩, ⟨12, .phase⟩, ⟨13, .phase⟩], guard := none }) rfl (fun K hK => ?_) ?_
                · go_simp
                  refine hK.out _ _ (fun he => Bool.noConfusion (show false = true from he)) (fun hE => ?_)
                  clear hK K hE
                  try simp only [Act.put, List.setIfInBounds_toArray, List.set_cons_zero, List.set_cons_succ]
                  refine wpAnyT_done (by kernel_rfl) ?_ _
                  refine NoPanic.normal ?_
                  obtain ⟨hB3, hK3⟩ := three hBA (.int .i64 p2.kind) (.int .i64 p2.num) (.slice A8 p2.subs.length c8)
                  have hkf := Keeps.trans (show Keeps (fun _ => False) W4 _ from (by repeat (first | (with_reducible exact Keeps.refl _ _) | (with_reducible refine Keeps.drew ?_) | (with_reducible refine Keeps.drewN ?_ _) | (with_reducible refine Keeps.trans ?_ (by assumption) (fun _ _ h => h))))) hK3 (fun i hi h => by have h2 : i = _ := h; omega)
                  have hpf := pf_final hp8 hK3
                  have HB3 := Lib.hid hB3
                  have HKF := Lib.hid hkf
                  have HPF := Lib.hid hpf
                  clear hB3 hkf hpf hK3
                  go_wp2_with fail
                  go_meet
                  exact ⟨_, A8, c8, rfl, rfl, HB3.out, HPF.out, HKF.out⟩
                exact AllT.nil
              exact AllT.nil
            exact AllT.nil
          exact AllT.nil
        exact AllT.nil
      refine AllT.cons (o := { dst := some 15, op := Op.alloc 27, type := 0, pos := "types.go:689", after := #[], guard := none }) rfl (fun K hK => ?_) ?_
      · (go_simp; refine name_world ?_; intro wA hwA; (first | (obtain ⟨hBA, hkA, hgA⟩ := blk_of_alloc (V := W4) (cs := [.int .i64 0, .int .i64 0, .slice none 0 0]) hwA (by repeat (first | (with_reducible exact Keeps.refl _ _) | (with_reducible refine Keeps.drew ?_) | (with_reducible refine Keeps.drewN ?_ _) | (with_reducible refine Keeps.trans ?_ (by assumption) (fun _ _ h => h))))) | (obtain ⟨hBA, hkA, hgA⟩ := blk_of_alloc_d (V := W4) (cs := [.int .i64 0, .int .i64 0, .slice none 0 0]) hwA (by repeat (first | (with_reducible exact Keeps.refl _ _) | (with_reducible refine Keeps.drew ?_) | (with_reducible refine Keeps.drewN ?_ _) | (with_reducible refine Keeps.trans ?_ (by assumption) (fun _ _ h => h)))))); clear hwA; have hB5 := hB5.keeps (X := fun _ => False) (show Keeps (fun _ => False) _ wA from (by repeat (first | (with_reducible exact Keeps.refl _ _) | (with_reducible refine Keeps.drew ?_) | (with_reducible refine Keeps.drewN ?_ _) | (with_reducible refine Keeps.trans ?_ (by assumption) (fun _ _ h => h))))) (fun h => h))
        refine hK.out _ _ (fun _ => ?_) (fun hE => ?_)
        · exact hQ.out _ (by repeat (first | (with_reducible exact Keeps.refl _ _) | (with_reducible refine Keeps.drew ?_) | (with_reducible refine Keeps.drewN ?_ _) | (with_reducible refine Keeps.trans ?_ (by assumption) (fun _ _ h => h))))
        have hS := hE (by kernel_rfl)
        clear hK K hE
        try simp only [Act.put, List.setIfInBounds_toArray, List.set_cons_zero, List.set_cons_succ]
        refine wpAnyT_ready (rs := [3]) (by kernel_rfl) rfl ?_
        refine AllT.cons (o := { dst := some 40, op := Op.call { callee := Callee.value (Operand.func 13), args := #[Operand.tmp 39], argTypes := #[36] }, type := 36, pos := "types.go:689", after := #[⟨2, .data⟩], guard := none }) rfl (fun K hK => ?_) ?_
        · (go_simp; go_at_call 13; with_reducible refine (HCl5.out _ (by repeat (first | (with_reducible exact Keeps.refl _ _) | (with_reducible refine Keeps.drew ?_) | (with_reducible refine Keeps.drewN ?_ _) | (with_reducible refine Keeps.trans ?_ (by assumption) (fun _ _ h => h))))).mono ?_; rintro e wq ⟨u, xs, rfl, hown, hxs, hkq⟩; go_wp2_with fail; have hBA := hBA.keeps (X := fun _ => False) (show Keeps (fun _ => False) _ wq from (by repeat (first | (with_reducible exact Keeps.refl _ _) | (with_reducible refine Keeps.drew ?_) | (with_reducible refine Keeps.drewN ?_ _) | (with_reducible refine Keeps.trans ?_ (by assumption) (fun _ _ h => h))))) (fun h => h); have hB5 := hB5.keeps (X := fun _ => False) (show Keeps (fun _ => False) _ wq from (by repeat (first | (with_reducible exact Keeps.refl _ _) | (with_reducible refine Keeps.drew ?_) | (with_reducible refine Keeps.drewN ?_ _) | (with_reducible refine Keeps.trans ?_ (by assumption) (fun _ _ h => h))))) (fun h => h))
          refine hK.out _ _ (fun _ => ?_) (fun hE => ?_)
          · exact hQ.out _ (by repeat (first | (with_reducible exact Keeps.refl _ _) | (with_reducible refine Keeps.drew ?_) | (with_reducible refine Keeps.drewN ?_ _) | (with_reducible refine Keeps.trans ?_ (by assumption) (fun _ _ h => h))))
          have hS := hE (by kernel_rfl)
          clear hK K hE
          try simp only [Act.put, List.setIfInBounds_toArray, List.set_cons_zero, List.set_cons_succ]
          refine wpAnyT_ready (rs := [6]) (by kernel_rfl) rfl ?_
          refine AllT.cons (o := { dst := some 43, op := Op.call { callee := Callee.builtin Builtin.append, args := #[Operand.tmp 40, Operand.tmp 42], argTypes := #[36, 36] }, type := 36, pos := "types.go:689", after := #[⟨3, .data⟩, ⟨5, .data⟩, ⟨3, .chain⟩], guard := none }) rfl (fun K hK => ?_) ?_
          · (refine step_append_kept2 (W0 := wq) rfl (.tmp 40) (.tmp 42) 36 rfl B0 35 i0 _ 5 72 Tryd.underlying36 hi0 hz0 hz1 hz2 rfl (by decide) u hs.length xs rfl hown (by repeat (first | (with_reducible exact Keeps.refl _ _) | (with_reducible refine Keeps.drew ?_) | (with_reducible refine Keeps.drewN ?_ _) | (with_reducible refine Keeps.trans ?_ (by assumption) (fun _ _ h => h)))) _ _ #[.string more.cls, .int .i64 more.ty.kind, .string more.ty.name, .int .i64 more.ty.var, .slice Am more.ty.args.length cm] rfl rfl hB5 (by simp [Value.oneCell']) HMq.out HBq.out (by have h1 := Keeps.size (show Keeps (fun _ => False) W4 wq from (by repeat (first | (with_reducible exact Keeps.refl _ _) | (with_reducible refine Keeps.drew ?_) | (with_reducible refine Keeps.drewN ?_ _) | (with_reducible refine Keeps.trans ?_ (by assumption) (fun _ _ h => h))))); have h2 := HB0.out; omega) ?_; intro g1 cap1 w6 hown1 hk1 hkp1 hat1; have hBA : Blk w6 _ _ _ := hkp1 _ _ hBA (own_ne_blk (own_keeps hown (show Keeps (fun _ => False) wq _ from (by repeat (first | (with_reducible exact Keeps.refl _ _) | (with_reducible refine Keeps.drew ?_) | (with_reducible refine Keeps.drewN ?_ _) | (with_reducible refine Keeps.trans ?_ (by assumption) (fun _ _ h => h))))) (fun _ _ h => h)) hBA (by decide)); have hsl6 := pred_more HQ2.out.1 HQ2.out.2 hxs (show Keeps (fun _ => False) W4 wq from (by repeat (first | (with_reducible exact Keeps.refl _ _) | (with_reducible refine Keeps.drew ?_) | (with_reducible refine Keeps.drewN ?_ _) | (with_reducible refine Keeps.trans ?_ (by assumption) (fun _ _ h => h))))) hk1 (fun i h => (hown.lt i h).1) hown1 HWT.out; have hk46 : Keeps (fun _ => False) W4 w6 := Keeps.trans (show Keeps (fun _ => False) W4 wq from (by repeat (first | (with_reducible exact Keeps.refl _ _) | (with_reducible refine Keeps.drew ?_) | (with_reducible refine Keeps.drewN ?_ _) | (with_reducible refine Keeps.trans ?_ (by assumption) (fun _ _ h => h))))) hk1 (fun i hi h => by have h1 := (hown.lt i h).1; have h2 := HB0.out; omega))
            refine hK.out _ _ (fun _ => ?_) (fun hE => ?_)
            · exact hQ.out _ (by repeat (first | (with_reducible exact Keeps.refl _ _) | (with_reducible refine Keeps.drew ?_) | (with_reducible refine Keeps.drewN ?_ _) | (with_reducible refine Keeps.trans ?_ (by assumption) (fun _ _ h => h))))
            have hS := hE (by kernel_rfl)
            clear hK K hE
            try simp only [Act.put, List.setIfInBounds_toArray, List.set_cons_zero, List.set_cons_succ]
            refine wpAnyT_ready (rs := [8]) (by kernel_rfl) rfl ?_
            refine AllT.cons (o := { dst := some 45, op := Op.call { callee := Callee.value (Operand.func 7), args := #[Operand.tmp 37, Operand.tmp 38, Operand.tmp 43, Operand.tmp 44], argTypes := #[31, 45, 36, 35] }, type := 29, pos := "types.go:689", after := #[⟨0, .data⟩, ⟨1, .data⟩, ⟨6, .data⟩, ⟨7, .data⟩, ⟨6, .chain⟩], guard := none }) rfl (fun K hK => ?_) ?_
            · (go_simp; go_at_call 7; with_reducible refine (HEn2.out _ _ _ (by repeat (first | (with_reducible exact Keeps.refl _ _) | (with_reducible refine Keeps.drew ?_) | (with_reducible refine Keeps.drewN ?_ _) | (with_reducible refine Keeps.trans ?_ (by assumption) (fun _ _ h => h)))) (by first | exact hsl6 | exact (hsl6.keeps (show Keeps (fun _ => False) w6 _ from (by repeat (first | (with_reducible exact Keeps.refl _ _) | (with_reducible refine Keeps.drew ?_) | (with_reducible refine Keeps.drewN ?_ _) | (with_reducible refine Keeps.trans ?_ (by assumption) (fun _ _ h => h))))) (fun _ _ h => h)).mono (fun b hb => by have h1 := hkA.size; have h2 : b < w6.heap.size := hb; simp at h1 ⊢; omega)) hBA.lt).mono ?_; rintro e w8 ⟨hk8, A8, c8, rfl, hp8⟩; go_wp2_with fail; have hBA := hBA.keeps (X := fun _ => False) (show Keeps (fun _ => False) _ w8 from (by repeat (first | (with_reducible exact Keeps.refl _ _) | (with_reducible refine Keeps.drew ?_) | (with_reducible refine Keeps.drewN ?_ _) | (with_reducible refine Keeps.trans ?_ (by assumption) (fun _ _ h => h))))) (fun h => h))
              refine hK.out _ _ (fun _ => ?_) (fun hE => ?_)
              · exact hQ.out _ (by repeat (first | (with_reducible exact Keeps.refl _ _) | (with_reducible refine Keeps.drew ?_) | (with_reducible refine Keeps.drewN ?_ _) | (with_reducible refine Keeps.trans ?_ (by assumption) (fun _ _ h => h))))
              have hS := hE (by kernel_rfl)
              clear hK K hE
              try simp only [Act.put, List.setIfInBounds_toArray, List.set_cons_zero, List.set_cons_succ]
              refine wpAnyT_pure (i := 9) (oi := { dst := some 36, op := Op.move (Operand.tmp 45), type := 29, pos := "types.go:689", after := #[⟨8, .data⟩], guard := none }) (v := ?v5_9_27) rfl (by kernel_rfl) (fun _ _ _ h => h) (Or.inl ⟨by rfl, ?y5_9_27⟩) (fun _ => hS) ?_
              case y5_9_27 => (intro w hSw; go_simp; try with_reducible rfl)
              try simp only [Act.put, List.setIfInBounds_toArray, List.set_cons_zero, List.set_cons_succ]
              refine wpAnyT_pure (i := 10) (oi := { dst := some 46, op := Op.extract (Operand.tmp 36) 0, type := 27, pos := "types.go:689", after := #[⟨9, .data⟩], guard := none }) (v := ?v5_10_28) rfl (by kernel_rfl) (fun _ _ _ h => h) (Or.inl ⟨by rfl, ?y5_10_28⟩) (fun _ => hS) ?_
              case y5_10_28 => (intro w hSw; go_simp; try with_reducible rfl)
              try simp only [Act.put, List.setIfInBounds_toArray, List.set_cons_zero, List.set_cons_succ]
              refine wpAnyT_pure (i := 11) (oi := { dst := some 47, op := Op.extract (Operand.tmp 36) 1, type := 28, pos := "types.go:689", after := #[⟨9, .data⟩, ⟨13, .gcOnly .lateStores⟩], guard := none }) (v := ?v5_11_29) rfl (by kernel_rfl) (fun _ _ _ h => h) (Or.inl ⟨by rfl, ?y5_11_29⟩) (fun _ => hS) ?_
              case y5_11_29 => (intro w hSw; go_simp; try with_reducible rfl)
              try simp only [Act.put, List.setIfInBounds_toArray, List.set_cons_zero, List.set_cons_succ]
              refine wpAnyT_ready (rs := [13]) (by kernel_rfl) rfl ?_
              refine AllT.cons (o := { dst := none, op := Op.store 27 (Operand.tmp 15) (Operand.tmp 46), type := 0, pos := "types.go:689", after := #[⟨12, .data⟩, ⟨10, .data⟩, ⟨8, .chain⟩, ⟨0, .phase⟩, ⟨1, .phase⟩, ⟨2, .phase⟩, ⟨3, .phase⟩, ⟨4, .phase⟩, ⟨5, .phase⟩, ⟨6, .phase⟩, ⟨7, .phase⟩, ⟨8, .phase⟩, ⟨9, .phase⟩, ⟨10, .phase⟩, ⟨11, .textOnly .lateStores⟩, ⟨12, .phase⟩], guard := none }) rfl (fun K hK => ?_) ?_
              · (have r0 := hBA.cell (i := 0) rfl; have r1 := hBA.cell (i := 1) rfl; have r2 := hBA.cell (i := 2) rfl; have f0 := hBA.free 0; have f1 := hBA.free 1; have f2 := hBA.free 2; have hlA := hBA.lt; go_simp)
                refine hK.out _ _ (fun he => Bool.noConfusion (show false = true from he)) (fun hE => ?_)
                clear hK K hE
                try simp only [Act.put, List.setIfInBounds_toArray, List.set_cons_zero, List.set_cons_succ]
                refine wpAnyT_ready (rs := [14]) (by kernel_rfl) rfl ?_
                refine AllT.cons (o := { dst := some 16, op := Op.assign (Operand.tmp 47), type := 28, pos := "types.go:689", after := #[⟨11, .data⟩, ⟨13, .chain⟩, ⟨0, .phase⟩, ⟨1, .phase⟩, ⟨2, .phase⟩, ⟨3, .phase⟩, ⟨4, .phase⟩, ⟨5, .phase⟩, ⟨6, .phase⟩, ⟨7, .phase⟩, ⟨8, .phase⟩, ⟨9, .phase⟩, ⟨10, .phase⟩, ⟨11, .phase⟩, ⟨12, .phase⟩, ⟨13, .phase⟩], guard := none }) rfl (fun K hK => ?_) ?_
                · go_simp
                  refine hK.out _ _ (fun he => Bool.noConfusion (show false = true from he)) (fun hE => ?_)
                  clear hK K hE
                  try simp only [Act.put, List.setIfInBounds_toArray, List.set_cons_zero, List.set_cons_succ]
                  refine wpAnyT_done (by kernel_rfl) ?_ _
                  refine NoPanic.normal ?_
                  obtain ⟨hB3, hK3⟩ := three hBA (.int .i64 p2.kind) (.int .i64 p2.num) (.slice A8 p2.subs.length c8)
                  have hkf := Keeps.trans (show Keeps (fun _ => False) W4 _ from (by repeat (first | (with_reducible exact Keeps.refl _ _) | (with_reducible refine Keeps.drew ?_) | (with_reducible refine Keeps.drewN ?_ _) | (with_reducible refine Keeps.trans ?_ (by assumption) (fun _ _ h => h))))) hK3 (fun i hi h => by have h2 : i = _ := h; omega)
                  have hpf := pf_final hp8 hK3
                  have HB3 := Lib.hid hB3
                  have HKF := Lib.hid hkf
                  have HPF := Lib.hid hpf
                  clear hB3 hkf hpf hK3
                  go_wp2_with fail
                  go_meet
                  exact ⟨_, A8, c8, rfl, rfl, HB3.out, HPF.out, HKF.out⟩
                exact AllT.nil
              exact AllT.nil
            exact AllT.nil
          exact AllT.nil
        exact AllT.nil
      exact AllT.nil
    refine AllT.cons (o := { dst := some 15, op := Op.alloc 27, type := 0, pos := "types.go:689", after := #[], guard := none }) rfl (fun K hK => ?_) ?_
    · (go_simp; refine name_world ?_; intro wA hwA; (first | (obtain ⟨hBA, hkA, hgA⟩ := blk_of_alloc (V := W4) (cs := [.int .i64 0, .int .i64 0, .slice none 0 0]) hwA (by repeat (first | (with_reducible exact Keeps.refl _ _) | (with_reducible refine Keeps.drew ?_) | (with_reducible refine Keeps.drewN ?_ _) | (with_reducible refine Keeps.trans ?_ (by assumption) (fun _ _ h => h))))) | (obtain ⟨hBA, hkA, hgA⟩ := blk_of_alloc_d (V := W4) (cs := [.int .i64 0, .int .i64 0, .slice none 0 0]) hwA (by repeat (first | (with_reducible exact Keeps.refl _ _) | (with_reducible refine Keeps.drew ?_) | (with_reducible refine Keeps.drewN ?_ _) | (with_reducible refine Keeps.trans ?_ (by assumption) (fun _ _ h => h)))))); clear hwA)
      refine hK.out _ _ (fun _ => ?_) (fun hE => ?_)
      · exact hQ.out _ (by repeat (first | (with_reducible exact Keeps.refl _ _) | (with_reducible refine Keeps.drew ?_) | (with_reducible refine Keeps.drewN ?_ _) | (with_reducible refine Keeps.trans ?_ (by assumption) (fun _ _ h => h))))
      have hS := hE (by kernel_rfl)
      clear hK K hE
      try simp only [Act.put, List.setIfInBounds_toArray, List.set_cons_zero, List.set_cons_succ]
      refine wpAnyT_ready (rs := [3, 5]) (by kernel_rfl) rfl ?_
      refine AllT.cons (o := { dst := some 40, op := Op.call { callee := Callee.value (Operand.func 13), args := #[Operand.tmp 39], argTypes := #[36] }, type := 36, pos := "types.go:689", after := #[⟨2, .data⟩], guard := none }) rfl (fun K hK => ?_) ?_
      · (go_simp; go_at_call 13; with_reducible refine (HCl5.out _ (by repeat (first | (with_reducible exact Keeps.refl _ _) | (with_reducible refine Keeps.drew ?_) | (with_reducible refine Keeps.drewN ?_ _) | (with_reducible refine Keeps.trans ?_ (by assumption) (fun _ _ h => h))))).mono ?_; rintro e wq ⟨u, xs, rfl, hown, hxs, hkq⟩; go_wp2_with fail; have hBA := hBA.keeps (X := fun _ => False) (show Keeps (fun _ => False) _ wq from (by repeat (first | (with_reducible exact Keeps.refl _ _) | (with_reducible refine Keeps.drew ?_) | (with_reducible refine Keeps.drewN ?_ _) | (with_reducible refine Keeps.trans ?_ (by assumption) (fun _ _ h => h))))) (fun h => h))
        refine hK.out _ _ (fun _ => ?_) (fun hE => ?_)
        · exact hQ.out _ (by repeat (first | (with_reducible exact Keeps.refl _ _) | (with_reducible refine Keeps.drew ?_) | (with_reducible refine Keeps.drewN ?_ _) | (with_reducible refine Keeps.trans ?_ (by assumption) (fun _ _ h => h))))
        have hS := hE (by kernel_rfl)
        clear hK K hE
        try simp only [Act.put, List.setIfInBounds_toArray, List.set_cons_zero, List.set_cons_succ]
        refine wpAnyT_ready (rs := [5]) (by kernel_rfl) rfl ?_
        refine AllT.cons (o := { dst := some 42, op := Op.buildSlice 36 1 #[(0, Operand.tmp 41)], type := 36, pos := "types.go:689", after := #[⟨4, .data⟩], guard := none }) rfl (fun K hK => ?_) ?_
        · (go_simp; refine name_world ?_; intro w5 hw5; (first | (obtain ⟨hB5, hk5, _⟩ := blk_of_alloc (V := W4) (cs := [.string more.cls, .int .i64 more.ty.kind, .string more.ty.name, .int .i64 more.ty.var, .slice Am more.ty.args.length cm]) hw5 (by repeat (first | (with_reducible exact Keeps.refl _ _) | (with_reducible refine Keeps.drew ?_) | (with_reducible refine Keeps.drewN ?_ _) | (with_reducible refine Keeps.trans ?_ (by assumption) (fun _ _ h => h))))) | (obtain ⟨hB5, hk5, _⟩ := blk_of_alloc_d (V := W4) (cs := [.string more.cls, .int .i64 more.ty.kind, .string more.ty.name, .int .i64 more.ty.var, .slice Am more.ty.args.length cm]) hw5 (by repeat (first | (with_reducible exact Keeps.refl _ _) | (with_reducible refine Keeps.drew ?_) | (with_reducible refine Keeps.drewN ?_ _) | (with_reducible refine Keeps.trans ?_ (by assumption) (fun _ _ h => h)))))); clear hw5; have hBA := hBA.keeps (X := fun _ => False) (show Keeps (fun _ => False) _ w5 from (by repeat (first | (with_reducible exact Keeps.refl _ _) | (with_reducible refine Keeps.drew ?_) | (with_reducible refine Keeps.drewN ?_ _) | (with_reducible refine Keeps.trans ?_ (by assumption) (fun _ _ h => h))))) (fun h => h))
          refine hK.out _ _ (fun _ => ?_) (fun hE => ?_)
          · exact hQ.out _ (by repeat (first | (with_reducible exact Keeps.refl _ _) | (with_reducible refine Keeps.drew ?_) | (with_reducible refine Keeps.drewN ?_ _) | (with_reducible refine Keeps.trans ?_ (by assumption) (fun _ _ h => h))))
          have hS := hE (by kernel_rfl)
          clear hK K hE
          try simp only [Act.put, List.setIfInBounds_toArray, List.set_cons_zero, List.set_cons_succ]
          refine wpAnyT_ready (rs := [6]) (by kernel_rfl) rfl ?_
          refine AllT.cons (o := { dst := some 43, op := Op.call { callee := Callee.builtin Builtin.append, args := #[Operand.tmp 40, Operand.tmp 42], argTypes := #[36, 36] }, type := 36, pos := "types.go:689", after := #[⟨3, .data⟩, ⟨5, .data⟩, ⟨3, .chain⟩], guard := none }) rfl (fun K hK => ?_) ?_
          · (refine step_append_kept2 (W0 := wq) rfl (.tmp 40) (.tmp 42) 36 rfl B0 35 i0 _ 5 72 Tryd.underlying36 hi0 hz0 hz1 hz2 rfl (by decide) u hs.length xs rfl hown (by repeat (first | (with_reducible exact Keeps.refl _ _) | (with_reducible refine Keeps.drew ?_) | (with_reducible refine Keeps.drewN ?_ _) | (with_reducible refine Keeps.trans ?_ (by assumption) (fun _ _ h => h)))) _ _ #[.string more.cls, .int .i64 more.ty.kind, .string more.ty.name, .int .i64 more.ty.var, .slice Am more.ty.args.length cm] rfl rfl hB5 (by simp [Value.oneCell']) HMq.out HBq.out (by have h1 := Keeps.size (show Keeps (fun _ => False) W4 wq from (by repeat (first | (with_reducible exact Keeps.refl _ _) | (with_reducible refine Keeps.drew ?_) | (with_reducible refine Keeps.drewN ?_ _) | (with_reducible refine Keeps.trans ?_ (by assumption) (fun _ _ h => h))))); have h2 := HB0.out; omega) ?_; intro g1 cap1 w6 hown1 hk1 hkp1 hat1; have hBA : Blk w6 _ _ _ := hkp1 _ _ hBA (own_ne_blk (own_keeps hown (show Keeps (fun _ => False) wq _ from (by repeat (first | (with_reducible exact Keeps.refl _ _) | (with_reducible refine Keeps.drew ?_) | (with_reducible refine Keeps.drewN ?_ _) | (with_reducible refine Keeps.trans ?_ (by assumption) (fun _ _ h => h))))) (fun _ _ h => h)) hBA (by decide)); have hsl6 := pred_more HQ2.out.1 HQ2.out.2 hxs (show Keeps (fun _ => False) W4 wq from (by repeat (first | (with_reducible exact Keeps.refl _ _) | (with_reducible refine Keeps.drew ?_) | (with_reducible refine Keeps.drewN ?_ _) | (with_reducible refine Keeps.trans ?_ (by assumption) (fun _ _ h => h))))) hk1 (fun i h => (hown.lt i h).1) hown1 HWT.out; have hk46 : Keeps (fun _ => False) W4 w6 := Keeps.trans (show Keeps (fun _ => False) W4 wq from (by repeat (first | (with_reducible exact Keeps.refl _ _) | (with_reducible refine Keeps.drew ?_) | (with_reducible refine Keeps.drewN ?_ _) | (with_reducible refine Keeps.trans ?_ (by assumption) (fun _ _ h => h))))) hk1 (fun i hi h => by have h1 := (hown.lt i h).1; have h2 := HB0.out; omega))
            refine hK.out _ _ (fun _ => ?_) (fun hE => ?_)
            · exact hQ.out _ (by repeat (first | (with_reducible exact Keeps.refl _ _) | (with_reducible refine Keeps.drew ?_) | (with_reducible refine Keeps.drewN ?_ _) | (with_reducible refine Keeps.trans ?_ (by assumption) (fun _ _ h => h))))
            have hS := hE (by kernel_rfl)
            clear hK K hE
            try simp only [Act.put, List.setIfInBounds_toArray, List.set_cons_zero, List.set_cons_succ]
            refine wpAnyT_ready (rs := [8]) (by kernel_rfl) rfl ?_
            refine AllT.cons (o := { dst := some 45, op := Op.call { callee := Callee.value (Operand.func 7), args := #[Operand.tmp 37, Operand.tmp 38, Operand.tmp 43, Operand.tmp 44], argTypes := #[31, 45, 36, 35] }, type := 29, pos := "types.go:689", after := #[⟨0, .data⟩, ⟨1, .data⟩, ⟨6, .data⟩, ⟨7, .data⟩, ⟨6, .chain⟩], guard := none }) rfl (fun K hK => ?_) ?_
            · (go_simp; go_at_call 7; with_reducible refine (HEn2.out _ _ _ (by repeat (first | (with_reducible exact Keeps.refl _ _) | (with_reducible refine Keeps.drew ?_) | (with_reducible refine Keeps.drewN ?_ _) | (with_reducible refine Keeps.trans ?_ (by assumption) (fun _ _ h => h)))) (by first | exact hsl6 | exact (hsl6.keeps (show Keeps (fun _ => False) w6 _ from (by repeat (first | (with_reducible exact Keeps.refl _ _) | (with_reducible refine Keeps.drew ?_) | (with_reducible refine Keeps.drewN ?_ _) | (with_reducible refine Keeps.trans ?_ (by assumption) (fun _ _ h => h))))) (fun _ _ h => h)).mono (fun b hb => by have h1 := hkA.size; have h2 : b < w6.heap.size := hb; simp at h1 ⊢; omega)) hBA.lt).mono ?_; rintro e w8 ⟨hk8, A8, c8, rfl, hp8⟩; go_wp2_with fail; have hBA := hBA.keeps (X := fun _ => False) (show Keeps (fun _ => False) _ w8 from (by repeat (first | (with_reducible exact Keeps.refl _ _) | (with_reducible refine Keeps.drew ?_) | (with_reducible refine Keeps.drewN ?_ _) | (with_reducible refine Keeps.trans ?_ (by assumption) (fun _ _ h => h))))) (fun h => h))
              refine hK.out _ _ (fun _ => ?_) (fun hE => ?_)
              · exact hQ.out _ (by repeat (first | (with_reducible exact Keeps.refl _ _) | (with_reducible refine Keeps.drew ?_) | (with_reducible refine Keeps.drewN ?_ _) | (with_reducible refine Keeps.trans ?_ (by assumption) (fun _ _ h => h))))
              have hS := hE (by kernel_rfl)
              clear hK K hE
              try simp only [Act.put, List.setIfInBounds_toArray, List.set_cons_zero, List.set_cons_succ]
              refine wpAnyT_pure (i := 9) (oi := { dst := some 36, op := Op.move (Operand.tmp 45), type := 29, pos := "types.go:689", after := #[⟨8, .data⟩], guard := none }) (v := ?v5_9_30) rfl (by kernel_rfl) (fun _ _ _ h => h) (Or.inl ⟨by rfl, ?y5_9_30⟩) (fun _ => hS) ?_
              case y5_9_30 => (intro w hSw; go_simp; try with_reducible rfl)
              try simp only [Act.put, List.setIfInBounds_toArray, List.set_cons_zero, List.set_cons_succ]
              refine wpAnyT_pure (i := 10) (oi := { dst := some 46, op := Op.extract (Operand.tmp 36) 0, type := 27, pos := "types.go:689", after := #[⟨9, .data⟩], guard := none }) (v := ?v5_10_31) rfl (by kernel_rfl) (fun _ _ _ h => h) (Or.inl ⟨by rfl, ?y5_10_31⟩) (fun _ => hS) ?_
              case y5_10_31 => (intro w hSw; go_simp; try with_reducible rfl)
              try simp only [Act.put, List.setIfInBounds_toArray, List.set_cons_zero, List.set_cons_succ]
              refine wpAnyT_pure (i := 11) (oi := { dst := some 47, op := Op.extract (Operand.tmp 36) 1, type := 28, pos := "types.go:689", after := #[⟨9, .data⟩, ⟨13, .gcOnly .lateStores⟩], guard := none }) (v := ?v5_11_32) rfl (by kernel_rfl) (fun _ _ _ h => h) (Or.inl ⟨by rfl, ?y5_11_32⟩) (fun _ => hS) ?_
              case y5_11_32 => (intro w hSw; go_simp; try with_reducible rfl)
              try simp only [Act.put, List.setIfInBounds_toArray, List.set_cons_zero, List.set_cons_succ]
              refine wpAnyT_ready (rs := [13]) (by kernel_rfl) rfl ?_
              refine AllT.cons (o := { dst := none, op := Op.store 27 (Operand.tmp 15) (Operand.tmp 46), type := 0, pos := "types.go:689", after := #[⟨12, .data⟩, ⟨10, .data⟩, ⟨8, .chain⟩, ⟨0, .phase⟩, ⟨1, .phase⟩, ⟨2, .phase⟩, ⟨3, .phase⟩, ⟨4, .phase⟩, ⟨5, .phase⟩, ⟨6, .phase⟩, ⟨7, .phase⟩, ⟨8, .phase⟩, ⟨9, .phase⟩, ⟨10, .phase⟩, ⟨11, .textOnly .lateStores⟩, ⟨12, .phase⟩], guard := none }) rfl (fun K hK => ?_) ?_
              · (have r0 := hBA.cell (i := 0) rfl; have r1 := hBA.cell (i := 1) rfl; have r2 := hBA.cell (i := 2) rfl; have f0 := hBA.free 0; have f1 := hBA.free 1; have f2 := hBA.free 2; have hlA := hBA.lt; go_simp)
                refine hK.out _ _ (fun he => Bool.noConfusion (show false = true from he)) (fun hE => ?_)
                clear hK K hE
                try simp only [Act.put, List.setIfInBounds_toArray, List.set_cons_zero, List.set_cons_succ]
                refine wpAnyT_ready (rs := [14]) (by kernel_rfl) rfl ?_
                refine AllT.cons (o := { dst := some 16, op := Op.assign (Operand.tmp 47), type := 28, pos := "types.go:689", after := #[⟨11, .data⟩, ⟨13, .chain⟩, ⟨0, .phase⟩, ⟨1, .phase⟩, ⟨2, .phase⟩, ⟨3, .phase⟩, ⟨4, .phase⟩, ⟨5, .phase⟩, ⟨6, .phase⟩, ⟨7, .phase⟩, ⟨8, .phase⟩, ⟨9, .phase⟩, ⟨10, .phase⟩, ⟨11, .phase⟩, ⟨12, .phase⟩, ⟨13, .phase⟩], guard := none }) rfl (fun K hK => ?_) ?_
                · go_simp
                  refine hK.out _ _ (fun he => Bool.noConfusion (show false = true from he)) (fun hE => ?_)
                  clear hK K hE
                  try simp only [Act.put, List.setIfInBounds_toArray, List.set_cons_zero, List.set_cons_succ]
                  refine wpAnyT_done (by kernel_rfl) ?_ _
                  refine NoPanic.normal ?_
                  obtain ⟨hB3, hK3⟩ := three hBA (.int .i64 p2.kind) (.int .i64 p2.num) (.slice A8 p2.subs.length c8)
                  have hkf := Keeps.trans (show Keeps (fun _ => False) W4 _ from (by repeat (first | (with_reducible exact Keeps.refl _ _) | (with_reducible refine Keeps.drew ?_) | (with_reducible refine Keeps.drewN ?_ _) | (with_reducible refine Keeps.trans ?_ (by assumption) (fun _ _ h => h))))) hK3 (fun i hi h => by have h2 : i = _ := h; omega)
                  have hpf := pf_final hp8 hK3
                  have HB3 := Lib.hid hB3
                  have HKF := Lib.hid hkf
                  have HPF := Lib.hid hpf
                  clear hB3 hkf hpf hK3
                  go_wp2_with fail
                  go_meet
                  exact ⟨_, A8, c8, rfl, rfl, HB3.out, HPF.out, HKF.out⟩
                exact AllT.nil
              exact AllT.nil
            exact AllT.nil
          exact AllT.nil
        exact AllT.nil
      refine AllT.cons (o := { dst := some 42, op := Op.buildSlice 36 1 #[(0, Operand.tmp 41)], type := 36, pos := "types.go:689", after := #[⟨4, .data⟩], guard := none }) rfl (fun K hK => ?_) ?_
      · (go_simp; refine name_world ?_; intro w5 hw5; (first | (obtain ⟨hB5, hk5, _⟩ := blk_of_alloc (V := W4) (cs := [.string more.cls, .int .i64 more.ty.kind, .string more.ty.name, .int .i64 more.ty.var, .slice Am more.ty.args.length cm]) hw5 (by repeat (first | (with_reducible exact Keeps.refl _ _) | (with_reducible refine Keeps.drew ?_) | (with_reducible refine Keeps.drewN ?_ _) | (with_reducible refine Keeps.trans ?_ (by assumption) (fun _ _ h => h))))) | (obtain ⟨hB5, hk5, _⟩ := blk_of_alloc_d (V := W4) (cs := [.string more.cls, .int .i64 more.ty.kind, .string more.ty.name, .int .i64 more.ty.var, .slice Am more.ty.args.length cm]) hw5 (by repeat (first | (with_reducible exact Keeps.refl _ _) | (with_reducible refine Keeps.drew ?_) | (with_reducible refine Keeps.drewN ?_ _) | (with_reducible refine Keeps.trans ?_ (by assumption) (fun _ _ h => h)))))); clear hw5; have hBA := hBA.keeps (X := fun _ => False) (show Keeps (fun _ => False) _ w5 from (by repeat (first | (with_reducible exact Keeps.refl _ _) | (with_reducible refine Keeps.drew ?_) | (with_reducible refine Keeps.drewN ?_ _) | (with_reducible refine Keeps.trans ?_ (by assumption) (fun _ _ h => h))))) (fun h => h))
        refine hK.out _ _ (fun _ => ?_) (fun hE => ?_)
        · exact hQ.out _ (by repeat (first | (with_reducible exact Keeps.refl _ _) | (with_reducible refine Keeps.drew ?_) | (with_reducible refine Keeps.drewN ?_ _) | (with_reducible refine Keeps.trans ?_ (by assumption) (fun _ _ h => h))))
        have hS := hE (by kernel_rfl)
        clear hK K hE
        try simp only [Act.put, List.setIfInBounds_toArray, List.set_cons_zero, List.set_cons_succ]
        refine wpAnyT_ready (rs := [3]) (by kernel_rfl) rfl ?_
        refine AllT.cons (o := { dst := some 40, op := Op.call { callee := Callee.value (Operand.func 13), args := #[Operand.tmp 39], argTypes := #[36] }, type := 36, pos := "types.go:689", after := #[⟨2, .data⟩], guard := none }) rfl (fun K hK => ?_) ?_
        · (go_simp; go_at_call 13; with_reducible refine (HCl5.out _ (by repeat (first | (with_reducible exact Keeps.refl _ _) | (with_reducible refine Keeps.drew ?_) | (with_reducible refine Keeps.drewN ?_ _) | (with_reducible refine Keeps.trans ?_ (by assumption) (fun _ _ h => h))))).mono ?_; rintro e wq ⟨u, xs, rfl, hown, hxs, hkq⟩; go_wp2_with fail; have hBA := hBA.keeps (X := fun _ => False) (show Keeps (fun _ => False) _ wq from (by repeat (first | (with_reducible exact Keeps.refl _ _) | (with_reducible refine Keeps.drew ?_) | (with_reducible refine Keeps.drewN ?_ _) | (with_reducible refine Keeps.trans ?_ (by assumption) (fun _ _ h => h))))) (fun h => h); have hB5 := hB5.keeps (X := fun _ => False) (show Keeps (fun _ => False) _ wq from (by repeat (first | (with_reducible exact Keeps.refl _ _) | (with_reducible refine Keeps.drew ?_) | (with_reducible refine Keeps.drewN ?_ _) | (with_reducible refine Keeps.trans ?_ (by assumption) (fun _ _ h => h))))) (fun h => h))
          refine hK.out _ _ (fun _ => ?_) (fun hE => ?_)
          · exact hQ.out _ (by repeat (first | (with_reducible exact Keeps.refl _ _) | (with_reducible refine Keeps.drew ?_) | (with_reducible refine Keeps.drewN ?_ _) | (with_reducible refine Keeps.trans ?_ (by assumption) (fun _ _ h => h))))
          have hS := hE (by kernel_rfl)
          clear hK K hE
          try simp only [Act.put, List.setIfInBounds_toArray, List.set_cons_zero, List.set_cons_succ]
          refine wpAnyT_ready (rs := [6]) (by kernel_rfl) rfl ?_
          refine AllT.cons (o := { dst := some 43, op := Op.call { callee := Callee.builtin Builtin.append, args := #[Operand.tmp 40, Operand.tmp 42], argTypes := #[36, 36] }, type := 36, pos := "types.go:689", after := #[⟨3, .data⟩, ⟨5, .data⟩, ⟨3, .chain⟩], guard := none }) rfl (fun K hK => ?_) ?_
          · (refine step_append_kept2 (W0 := wq) rfl (.tmp 40) (.tmp 42) 36 rfl B0 35 i0 _ 5 72 Tryd.underlying36 hi0 hz0 hz1 hz2 rfl (by decide) u hs.length xs rfl hown (by repeat (first | (with_reducible exact Keeps.refl _ _) | (with_reducible refine Keeps.drew ?_) | (with_reducible refine Keeps.drewN ?_ _) | (with_reducible refine Keeps.trans ?_ (by assumption) (fun _ _ h => h)))) _ _ #[.string more.cls, .int .i64 more.ty.kind, .string more.ty.name, .int .i64 more.ty.var, .slice Am more.ty.args.length cm] rfl rfl hB5 (by simp [Value.oneCell']) HMq.out HBq.out (by have h1 := Keeps.size (show Keeps (fun _ => False) W4 wq from (by repeat (first | (with_reducible exact Keeps.refl _ _) | (with_reducible refine Keeps.drew ?_) | (with_reducible refine Keeps.drewN ?_ _) | (with_reducible refine Keeps.trans ?_ (by assumption) (fun _ _ h => h))))); have h2 := HB0.out; omega) ?_; intro g1 cap1 w6 hown1 hk1 hkp1 hat1; have hBA : Blk w6 _ _ _ := hkp1 _ _ hBA (own_ne_blk (own_keeps hown (show Keeps (fun _ => False) wq _ from (by repeat (first | (with_reducible exact Keeps.refl _ _) | (with_reducible refine Keeps.drew ?_) | (with_reducible refine Keeps.drewN ?_ _) | (with_reducible refine Keeps.trans ?_ (by assumption) (fun _ _ h => h))))) (fun _ _ h => h)) hBA (by decide)); have hsl6 := pred_more HQ2.out.1 HQ2.out.2 hxs (show Keeps (fun _ => False) W4 wq from (by repeat (first | (with_reducible exact Keeps.refl _ _) | (with_reducible refine Keeps.drew ?_) | (with_reducible refine Keeps.drewN ?_ _) | (with_reducible refine Keeps.trans ?_ (by assumption) (fun _ _ h => h))))) hk1 (fun i h => (hown.lt i h).1) hown1 HWT.out; have hk46 : Keeps (fun _ => False) W4 w6 := Keeps.trans (show Keeps (fun _ => False) W4 wq from (by repeat (first | (with_reducible exact Keeps.refl _ _) | (with_reducible refine Keeps.drew ?_) | (with_reducible refine Keeps.drewN ?_ _) | (with_reducible refine Keeps.trans ?_ (by assumption) (fun _ _ h => h))))) hk1 (fun i hi h => by have h1 := (hown.lt i h).1; have h2 := HB0.out; omega))
            refine hK.out _ _ (fun _ => ?_) (fun hE => ?_)
            · exact hQ.out _ (by repeat (first | (with_reducible exact Keeps.refl _ _) | (with_reducible refine Keeps.drew ?_) | (with_reducible refine Keeps.drewN ?_ _) | (with_reducible refine Keeps.trans ?_ (by assumption) (fun _ _ h => h))))
            have hS := hE (by kernel_rfl)
            clear hK K hE
            try simp only [Act.put, List.setIfInBounds_toArray, List.set_cons_zero, List.set_cons_succ]
            refine wpAnyT_ready (rs := [8]) (by kernel_rfl) rfl ?_
            refine AllT.cons (o := { dst := some 45, op := Op.call { callee := Callee.value (Operand.func 7), args := #[Operand.tmp 37, Operand.tmp 38, Operand.tmp 43, Operand.tmp 44], argTypes := #[31, 45, 36, 35] }, type := 29, pos := "types.go:689", after := #[⟨0, .data⟩, ⟨1, .data⟩, ⟨6, .data⟩, ⟨7, .data⟩, ⟨6, .chain⟩], guard := none }) rfl (fun K hK => ?_) ?_
            · (go_simp; go_at_call 7; with_reducible refine (HEn2.out _ _ _ (by repeat (first | (with_reducible exact Keeps.refl _ _) | (with_reducible refine Keeps.drew ?_) | (with_reducible refine Keeps.drewN ?_ _) | (with_reducible refine Keeps.trans ?_ (by assumption) (fun _ _ h => h)))) (by first | exact hsl6 | exact (hsl6.keeps (show Keeps (fun _ => False) w6 _ from (by repeat (first | (with_reducible exact Keeps.refl _ _) | (with_reducible refine Keeps.drew ?_) | (with_reducible refine Keeps.drewN ?_ _) | (with_reducible refine Keeps.trans ?_ (by assumption) (fun _ _ h => h))))) (fun _ _ h => h)).mono (fun b hb => by have h1 := hkA.size; have h2 : b < w6.heap.size := hb; simp at h1 ⊢; omega)) hBA.lt).mono ?_; rintro e w8 ⟨hk8, A8, c8, rfl, hp8⟩; go_wp2_with fail; have hBA := hBA.keeps (X := fun _ => False) (show Keeps (fun _ => False) _ w8 from (by repeat (first | (with_reducible exact Keeps.refl _ _) | (with_reducible refine Keeps.drew ?_) | (with_reducible refine Keeps.drewN ?_ _) | (with_reducible refine Keeps.trans ?_ (by assumption) (fun _ _ h => h))))) (fun h => h))
              refine hK.out _ _ (fun _ => ?_) (fun hE => ?_)
              · exact hQ.out _ (by repeat (first | (with_reducible exact Keeps.refl _ _) | (with_reducible refine Keeps.drew ?_) | (with_reducible refine Keeps.drewN ?_ _) | (with_reducible refine Keeps.trans ?_ (by assumption) (fun _ _ h => h))))
              have hS := hE (by kernel_rfl)
              clear hK K hE
              try simp only [Act.put, List.setIfInBounds_toArray, List.set_cons_zero, List.set_cons_succ]
              refine wpAnyT_pure (i := 9) (oi := { dst := some 36, op := Op.move (Operand.tmp 45), type := 29, pos := "types.go:689", after := #[⟨8, .data⟩], guard := none }) (v := ?v5_9_33) rfl (by kernel_rfl) (fun _ _ _ h => h) (Or.inl ⟨by rfl, ?y5_9_33⟩) (fun _ => hS) ?_
              case y5_9_33 => (intro w hSw; go_simp; try with_reducible rfl)
              try simp only [Act.put, List.setIfInBounds_toArray, List.set_cons_zero, List.set_cons_succ]
              refine wpAnyT_pure (i := 10) (oi := { dst := some 46, op := Op.extract (Operand.tmp 36) 0, type := 27, pos := "types.go:689", after := #[⟨9, .data⟩], guard := none }) (v := ?v5_10_34) rfl (by kernel_rfl) (fun _ _ _ h => h) (Or.inl ⟨by rfl, ?y5_10_34⟩) (fun _ => hS) ?_
              case y5_10_34 => (intro w hSw; go_simp; try with_reducible rfl)
              try simp only [Act.put, List.setIfInBounds_toArray, List.set_cons_zero, List.set_cons_succ]
              refine wpAnyT_pure (i := 11) (oi := { dst := some 47, op := Op.extract (Operand.tmp 36) 1, type := 28, pos := "types.go:689", after := #[⟨9, .data⟩, ⟨13, .gcOnly .lateStores⟩], guard := none }) (v := ?v5_11_35) rfl (by kernel_rfl) (fun _ _ _ h => h) (Or.inl ⟨by rfl, ?y5_11_35⟩) (fun _ => hS) ?_
              case y5_11_35 => (intro w hSw; go_simp; try with_reducible rfl)
              try simp only [Act.put, List.setIfInBounds_toArray, List.set_cons_zero, List.set_cons_succ]
              refine wpAnyT_ready (rs := [13]) (by kernel_rfl) rfl ?_
              refine AllT.cons (o := { dst := none, op := Op.store 27 (Operand.tmp 15) (Operand.tmp 46), type := 0, pos := "types.go:689", after := #[⟨12, .data⟩, ⟨10, .data⟩, ⟨8, .chain⟩, ⟨0, .phase⟩, ⟨1, .phase⟩, ⟨2, .phase⟩, ⟨3, .phase⟩, ⟨4, .phase⟩, ⟨5, .phase⟩, ⟨6, .phase⟩, ⟨7, .phase⟩, ⟨8, .phase⟩, ⟨9, .phase⟩, ⟨10, .phase⟩, ⟨11, .textOnly .lateStores⟩, ⟨12, .phase⟩], guard := none }) rfl (fun K hK => ?_) ?_
              · (have r0 := hBA.cell (i := 0) rfl; have r1 := hBA.cell (i := 1) rfl; have r2 := hBA.cell (i := 2) rfl; have f0 := hBA.free 0; have f1 := hBA.free 1; have f2 := hBA.free 2; have hlA := hBA.lt; go_simp)
                refine hK.out _ _ (fun he => Bool.noConfusion (show false = true from he)) (fun hE => ?_)
                clear hK K hE
                try simp only [Act.put, List.setIfInBounds_toArray, List.set_cons_zero, List.set_cons_succ]
                refine wpAnyT_ready (rs := [14]) (by kernel_rfl) rfl ?_
                refine AllT.cons (o := { dst := some 16, op := Op.assign (Operand.tmp 47), type := 28, pos := "types.go:689", after := #[⟨11, .data⟩, ⟨13, .chain⟩, ⟨0, .phase⟩, ⟨1, .phase⟩, ⟨2, .phase⟩, ⟨3, .phase⟩, ⟨4, .phase⟩, ⟨5, .phase⟩, ⟨6, .phase⟩, ⟨7, .phase⟩, ⟨8, .phase⟩, ⟨9, .phase⟩, ⟨10, .phase⟩, ⟨11, .phase⟩, ⟨12, .phase⟩, ⟨13, .phase⟩], guard := none }) rfl (fun K hK => ?_) ?_
                · go_simp
                  refine hK.out _ _ (fun he => Bool.noConfusion (show false = true from he)) (fun hE => ?_)
                  clear hK K hE
                  try simp only [Act.put, List.setIfInBounds_toArray, List.set_cons_zero, List.set_cons_succ]
                  refine wpAnyT_done (by kernel_rfl) ?_ _
                  refine NoPanic.normal ?_
                  obtain ⟨hB3, hK3⟩ := three hBA (.int .i64 p2.kind) (.int .i64 p2.num) (.slice A8 p2.subs.length c8)
                  have hkf := Keeps.trans (show Keeps (fun _ => False) W4 _ from (by repeat (first | (with_reducible exact Keeps.refl _ _) | (with_reducible refine Keeps.drew ?_) | (with_reducible refine Keeps.drewN ?_ _) | (with_reducible refine Keeps.trans ?_ (by assumption) (fun _ _ h => h))))) hK3 (fun i hi h => by have h2 : i = _ := h; omega)
                  have hpf := pf_final hp8 hK3
                  have HB3 := Lib.hid hB3
                  have HKF := Lib.hid hkf
                  have HPF := Lib.hid hpf
                  clear hB3 hkf hpf hK3
                  go_wp2_with fail
                  go_meet
                  exact ⟨_, A8, c8, rfl, rfl, HB3.out, HPF.out, HKF.out⟩
                exact AllT.nil
              exact AllT.nil
            exact AllT.nil
          exact AllT.nil
        exact AllT.nil
      exact AllT.nil
    exact AllT.nil
  case rest =>
    obtain ⟨g, A2, c2, rfl, rfl, hBg, hPf, hk5⟩ := hcut
    have hkWc := HK4W.out.trans hk5 (fun _ _ h => h)
    have HKWc := Lib.hid hkWc
    have HBel : Hid (∀ w', Keeps (fun _ => False) wc w' → Below W.heap.size W w') := fun w' h => (hkWc.trans h (fun _ _ h => h)).below (fun _ h => h.elim) (Nat.le_refl _)
    have hx8 := HB8.out.keeps (HK04.out.trans hk5 (fun _ _ h => h)) (fun h => h)
    have hx9 := HB9.out.keeps (HK04.out.trans hk5 (fun _ _ h => h)) (fun h => h)
    have HX8 := Lib.hid hx8
    have HX9 := Lib.hid hx9
    have HBg := Lib.hid hBg
    have HPf := Lib.hid hPf
    clear hBg hPf hk5 hkWc hx8 hx9 HCl5 HEn2 hQ HQ2 HWT HF5 HMq HB8W
    by_cases hr1 : r1 = 0
    case neg =>
      have hb1 : (r1 != 0) = true := by simpa using hr1
      go_wp2_with fail
      go_ret
      exact ⟨rfl, HBel.out _ (Keeps.refl _ _)⟩
    have hb1 : (r1 != 0) = false := by simpa using hr1
    subst hr1
    have HWk := Lib.hid (weakened HE1.out HE2.out)
    by_cases hr2 : r2 = 0
    · have hb2 : (r2 != 0) = false := by simpa using hr2
      subst hr2
      have hk4W := HKWc.out
      have hsW4 := hk4W.size
      have hb8lt := HX8.out.lt
      obtain ⟨B0, hB0⟩ : ∃ B0, wc.heap.size = B0 := ⟨_, rfl⟩
      have HF5 : Hid (∀ b, b < W.heap.size → b < B0 ∧ b < wc.heap.size) := fun b hb => by omega
      have HCl5 : Hid (∀ X, Keeps (fun _ => False) wc X → Calls Tryd.prog 13 #[.slice Ah hs.length ch] X (fun e w' => ∃ u xs, e = .returned u ∧ w'.ownsRow B0 35 5 u hs.length xs ∧ RpAll w' (· < W.heap.size) (hs.map Pred.d) xs ∧ Keeps (fun _ => False) X w')) := fun X hk => by
        have hsz := hk.size
        refine (prClone hs _ (· < W.heap.size) X (HVh.out.keeps (hk4W.trans hk (fun _ _ h => h)) (fun _ _ h => h)) (fun b hb => by have := HF5.out b hb; omega) (by have h1 : hs.length * 72 ≤ 140737488351232 := HLen.out; omega)).mono ?_
        rintro e w' ⟨u, xs, he, ho, hx, hb⟩
        exact ⟨u, xs, he, own_base (by omega) ho, hx, Keeps.of_below (X := fun _ => False) hb⟩
      have HMq : Hid (hs.length + 1 ≤ maxLen) := by show _ ≤ _; have h1 : hs.length * 72 ≤ 140737488351232 := HLen.out; unfold maxLen; omega
      have HWT := Lib.hid (HTm.out.keeps hk4W (fun _ _ h => h))
      have HQ2 : Hid ((∀ b, b < W.heap.size → b < B0 ∧ b < wc.heap.size) ∧ ((∀ b, b < W.heap.size → b < B0 ∧ b < wc.heap.size) ∧ more.cls.size ≤ maxLen)) := ⟨HF5.out, HF5.out, HCm.out⟩
      have hQ : Hid (∀ X, Keeps (fun _ => False) wc X → (X.cell? ⟨b8, 0, none⟩ = some (.string more.cls) ∧ X.cell? ⟨b8, 1, none⟩ = some (.int .i64 more.ty.kind) ∧ X.cell? ⟨b8, 2, none⟩ = some (.string more.ty.name) ∧ X.cell? ⟨b8, 3, none⟩ = some (.int .i64 more.ty.var) ∧ X.cell? ⟨b8, 4, none⟩ = some (.slice Am more.ty.args.length cm) ∧ X.cell? ⟨b8 + 1, 0, none⟩ = some (.string want.cls) ∧ X.cell? ⟨b8 + 1, 1, none⟩ = some (.int .i64 want.ty.kind) ∧ X.cell? ⟨b8 + 1, 2, none⟩ = some (.string want.ty.name) ∧ X.cell? ⟨b8 + 1, 3, none⟩ = some (.int .i64 want.ty.var) ∧ X.cell? ⟨b8 + 1, 4, none⟩ = some (.slice Aw want.ty.args.length cw) ∧ X.cell? ⟨g, 0, none⟩ = some (.int .i64 p2.kind) ∧ X.cell? ⟨g, 1, none⟩ = some (.int .i64 p2.num) ∧ X.cell? ⟨g, 2, none⟩ = some (.slice A2 p2.subs.length c2))) := fun X hk => by
        have hx := HX8.out.keeps hk (fun h => h)
        have hy := HX9.out.keeps hk (fun h => h)
        have hz := HBg.out.keeps hk (fun h => h)
        exact ⟨hx.cell (i := 0) rfl, hx.cell (i := 1) rfl, hx.cell (i := 2) rfl, hx.cell (i := 3) rfl, hx.cell (i := 4) rfl, hy.cell (i := 0) rfl, hy.cell (i := 1) rfl, hy.cell (i := 2) rfl, hy.cell (i := 3) rfl, hy.cell (i := 4) rfl, hz.cell (i := 0) rfl, hz.cell (i := 1) rfl, hz.cell (i := 2) rfl⟩
      have HPv : Hid (∀ X v, Keeps (fun _ => False) wc X → Sl X (fun b => b < X.heap.size) Pred.d (hs ++ [more]) v → Calls Tryd.prog 12 #[vl, vi, v, .agg #[.string want.cls, .int .i64 want.ty.kind, .string want.ty.name, .int .i64 want.ty.var, .slice Aw want.ty.args.length cw], .agg #[.int .i64 p2.kind, .int .i64 p2.num, .slice A2 p2.subs.length c2]] X (fun e w' => e = .returned (.bool true) ∧ Keeps (fun _ => False) X w')) := fun X v hk hv => by
        have hsz := hk.size
        have hkX := hk4W.trans hk (fun _ _ h => h)
        have henv := entailS_env HFit.out HE2.out
        exact Proves_any l s (hs ++ [more]) want p2 henv.1 (entailS_ok HE2.out).1 henv.2.1 henv.2.2.1 henv.2.2.2 vl vi v (fun b => b < X.heap.size) X Aw cw A2 c2 ((HVl.out.keeps hkX (fun _ _ h => h)).mono (fun b hb => by have h1 : b < W.heap.size := hb; omega)) ((HVi.out.keeps hkX (fun _ _ h => h)).mono (fun b hb => by have h1 : b < W.heap.size := hb; omega)) hv (fun b hb => hb) ((HTw.out.keeps hkX (fun _ _ h => h)).mono (fun b hb => by have h1 : b < W.heap.size := hb; omega)) ((HPf.out.keeps hk (fun _ _ h => h)).mono (fun b hb => by omega)) (HZ.out.keeps hkX (fun h => h))
      have HB0 := Lib.hid hB0
      clear hB0 hk4W hsW4 hb8lt
      go_upto_region 11 with (fail)
      refine wp_region_noPanic ?_
      refine wp_region_till [] (fun X => X.cell? ⟨b8, 0, none⟩ = some (.string more.cls) ∧ X.cell? ⟨b8, 1, none⟩ = some (.int .i64 more.ty.kind) ∧ X.cell? ⟨b8, 2, none⟩ = some (.string more.ty.name) ∧ X.cell? ⟨b8, 3, none⟩ = some (.int .i64 more.ty.var) ∧ X.cell? ⟨b8, 4, none⟩ = some (.slice Am more.ty.args.length cm) ∧ X.cell? ⟨b8 + 1, 0, none⟩ = some (.string want.cls) ∧ X.cell? ⟨b8 + 1, 1, none⟩ = some (.int .i64 want.ty.kind) ∧ X.cell? ⟨b8 + 1, 2, none⟩ = some (.string want.ty.name) ∧ X.cell? ⟨b8 + 1, 3, none⟩ = some (.int .i64 want.ty.var) ∧ X.cell? ⟨b8 + 1, 4, none⟩ = some (.slice Aw want.ty.args.length cw) ∧ X.cell? ⟨g, 0, none⟩ = some (.int .i64 p2.kind) ∧ X.cell? ⟨g, 1, none⟩ = some (.int .i64 p2.num) ∧ X.cell? ⟨g, 2, none⟩ = some (.slice A2 p2.subs.length c2)) (by kernel_rfl) ?_ (fun hE => ?_)
      · exact hQ.out _ (by repeat (first | (with_reducible exact Keeps.refl _ _) | (with_reducible refine Keeps.drew ?_) | (with_reducible refine Keeps.drewN ?_ _) | (with_reducible refine Keeps.trans ?_ (by assumption) (fun _ _ h => h))))
      have hS := hE (by kernel_rfl)
      refine wpAnyT_pure (i := 0) (oi := { dst := some 71, op := Op.move (Operand.tmp 0), type := 31, pos := "types.go:697", after := #[], guard := none }) (v := ?v11_0_1) rfl (by kernel_rfl) (fun _ _ _ h => h) (Or.inl ⟨by rfl, ?y11_0_1⟩) (fun _ => hS) ?_
      case y11_0_1 => (intro w hSw; go_simp; try with_reducible rfl)
      try simp only [Act.put, List.setIfInBounds_toArray, List.set_cons_zero, List.set_cons_succ]
      refine wpAnyT_pure (i := 1) (oi := { dst := some 72, op := Op.move (Operand.tmp 1), type := 45, pos := "types.go:697", after := #[], guard := none }) (v := ?v11_1_2) rfl (by kernel_rfl) (fun _ _ _ h => h) (Or.inl ⟨by rfl, ?y11_1_2⟩) (fun _ => hS) ?_
      case y11_1_2 => (intro w hSw; go_simp; try with_reducible rfl)
      try simp only [Act.put, List.setIfInBounds_toArray, List.set_cons_zero, List.set_cons_succ]
      refine wpAnyT_pure (i := 2) (oi := { dst := some 73, op := Op.move (Operand.tmp 2), type := 36, pos := "types.go:697", after := #[], guard := none }) (v := ?v11_2_3) rfl (by kernel_rfl) (fun _ _ _ h => h) (Or.inl ⟨by rfl, ?y11_2_3⟩) (fun _ => hS) ?_
      case y11_2_3 => (intro w hSw; go_simp; try with_reducible rfl)
      try simp only [Act.put, List.setIfInBounds_toArray, List.set_cons_zero, List.set_cons_succ]
      refine wpAnyT_take (i := 4) (oi := { dst := some 75, op := Op.load 35 (Operand.tmp 8), type := 35, pos := "types.go:697", after := #[], guard := none }) (v := ?v11_4_4) rfl (by kernel_rfl) (fun _ _ _ h => h) (Or.inl ⟨by rfl, ?y11_4_4⟩) hS ?_
      case y11_4_4 => (intro w hSw; (try dsimp only at hSw); go_simp; try with_reducible rfl)
      try simp only [Act.put, List.setIfInBounds_toArray, List.set_cons_zero, List.set_cons_succ]
      refine wpAnyT_take (i := 7) (oi := { dst := some 78, op := Op.load 35 (Operand.tmp 9), type := 35, pos := "types.go:697", after := #[], guard := none }) (v := ?v11_7_5) rfl (by kernel_rfl) (fun _ _ _ h => h) (Or.inl ⟨by rfl, ?y11_7_5⟩) hS ?_
      case y11_7_5 => (intro w hSw; (try dsimp only at hSw); go_simp; try with_reducible rfl)
      try simp only [Act.put, List.setIfInBounds_toArray, List.set_cons_zero, List.set_cons_succ]
      refine wpAnyT_take (i := 8) (oi := { dst := some 79, op := Op.load 27 (Operand.tmp 15), type := 27, pos := "types.go:697", after := #[], guard := none }) (v := ?v11_8_6) rfl (by kernel_rfl) (fun _ _ _ h => h) (Or.inl ⟨by rfl, ?y11_8_6⟩) hS ?_
      case y11_8_6 => (intro w hSw; (try dsimp only at hSw); go_simp; try with_reducible rfl)
      try simp only [Act.put, List.setIfInBounds_toArray, List.set_cons_zero, List.set_cons_succ]
      refine wpAnyT_ready (rs := [3, 5]) (by kernel_rfl) rfl ?_
      refine AllT.cons (o := { dst := some 74, op := Op.call { callee := Callee.value (Operand.func 13), args := #[Operand.tmp 73], argTypes := #[36] }, type := 36, pos := "types.go:697", after := #[⟨2, .data⟩], guard := none }) rfl (fun K hK => ?_) ?_
      · (go_simp; go_at_call 13; with_reducible refine (HCl5.out _ (by repeat (first | (with_reducible exact Keeps.refl _ _) | (with_reducible refine Keeps.drew ?_) | (with_reducible refine Keeps.drewN ?_ _) | (with_reducible refine Keeps.trans ?_ (by assumption) (fun _ _ h => h))))).mono ?_; rintro e wq ⟨u, xs, rfl, hown, hxs, hkq⟩; go_wp2_with fail)
        refine hK.out _ _ (fun _ => ?_) (fun hE => ?_)
        · exact hQ.out _ (by repeat (first | (with_reducible exact Keeps.refl _ _) | (with_reducible refine Keeps.drew ?_) | (with_reducible refine Keeps.drewN ?_ _) | (with_reducible refine Keeps.trans ?_ (by assumption) (fun _ _ h => h))))
        have hS := hE (by kernel_rfl)
        clear hK K hE
        try simp only [Act.put, List.setIfInBounds_toArray, List.set_cons_zero, List.set_cons_succ]
        refine wpAnyT_ready (rs := [5]) (by kernel_rfl) rfl ?_
        refine AllT.cons (o := { dst := some 76, op := Op.buildSlice 36 1 #[(0, Operand.tmp 75)], type := 36, pos := "types.go:697", after := #[⟨4, .data⟩], guard := none }) rfl (fun K hK => ?_) ?_
        · (go_simp; refine name_world ?_; intro w5 hw5; (first | (obtain ⟨hB5, hk5, _⟩ := blk_of_alloc (V := wc) (cs := [.string more.cls, .int .i64 more.ty.kind, .string more.ty.name, .int .i64 more.ty.var, .slice Am more.ty.args.length cm]) hw5 (by repeat (first | (with_reducible exact Keeps.refl _ _) | (with_reducible refine Keeps.drew ?_) | (with_reducible refine Keeps.drewN ?_ _) | (with_reducible refine Keeps.trans ?_ (by assumption) (fun _ _ h => h))))) | (obtain ⟨hB5, hk5, _⟩ := blk_of_alloc_d (V := wc) (cs := [.string more.cls, .int .i64 more.ty.kind, .string more.ty.name, .int .i64 more.ty.var, .slice Am more.ty.args.length cm]) hw5 (by repeat (first | (with_reducible exact Keeps.refl _ _) | (with_reducible refine Keeps.drew ?_) | (with_reducible refine Keeps.drewN ?_ _) | (with_reducible refine Keeps.trans ?_ (by assumption) (fun _ _ h => h)))))); clear hw5)
          refine hK.out _ _ (fun _ => ?_) (fun hE => ?_)
          · exact hQ.out _ (by repeat (first | (with_reducible exact Keeps.refl _ _) | (with_reducible refine Keeps.drew ?_) | (with_reducible refine Keeps.drewN ?_ _) | (with_reducible refine Keeps.trans ?_ (by assumption) (fun _ _ h => h))))
          have hS := hE (by kernel_rfl)
          clear hK K hE
          try simp only [Act.put, List.setIfInBounds_toArray, List.set_cons_zero, List.set_cons_succ]
          refine wpAnyT_ready (rs := [6]) (by kernel_rfl) rfl ?_
          refine AllT.cons (o := { dst := some 77, op := Op.call { callee := Callee.builtin Builtin.append, args := #[Operand.tmp 74, Operand.tmp 76], argTypes := #[36, 36] }, type := 36, pos := "types.go:697", after := #[⟨3, .data⟩, ⟨5, .data⟩, ⟨3, .chain⟩], guard := none }) rfl (fun K hK => ?_) ?_
          · (refine step_append_kept2 (W0 := wq) rfl (.tmp 74) (.tmp 76) 36 rfl B0 35 i0 _ 5 72 Tryd.underlying36 hi0 hz0 hz1 hz2 rfl (by decide) u hs.length xs rfl hown (by repeat (first | (with_reducible exact Keeps.refl _ _) | (with_reducible refine Keeps.drew ?_) | (with_reducible refine Keeps.drewN ?_ _) | (with_reducible refine Keeps.trans ?_ (by assumption) (fun _ _ h => h)))) _ _ #[.string more.cls, .int .i64 more.ty.kind, .string more.ty.name, .int .i64 more.ty.var, .slice Am more.ty.args.length cm] rfl rfl hB5 (by simp [Value.oneCell']) HMq.out HBq.out (by have h1 := Keeps.size (show Keeps (fun _ => False) wc wq from (by repeat (first | (with_reducible exact Keeps.refl _ _) | (with_reducible refine Keeps.drew ?_) | (with_reducible refine Keeps.drewN ?_ _) | (with_reducible refine Keeps.trans ?_ (by assumption) (fun _ _ h => h))))); have h2 := HB0.out; omega) ?_; intro g1 cap1 w6 hown1 hk1 hkp1 hat1; have hsl6 := pred_more HQ2.out.1 HQ2.out.2 hxs (show Keeps (fun _ => False) wc wq from (by repeat (first | (with_reducible exact Keeps.refl _ _) | (with_reducible refine Keeps.drew ?_) | (with_reducible refine Keeps.drewN ?_ _) | (with_reducible refine Keeps.trans ?_ (by assumption) (fun _ _ h => h))))) hk1 (fun i h => (hown.lt i h).1) hown1 HWT.out; have hk46 : Keeps (fun _ => False) wc w6 := Keeps.trans (show Keeps (fun _ => False) wc wq from (by repeat (first | (with_reducible exact Keeps.refl _ _) | (with_reducible refine Keeps.drew ?_) | (with_reducible refine Keeps.drewN ?_ _) | (with_reducible refine Keeps.trans ?_ (by assumption) (fun _ _ h => h))))) hk1 (fun i hi h => by have h1 := (hown.lt i h).1; have h2 := HB0.out; omega))
            refine hK.out _ _ (fun _ => ?_) (fun hE => ?_)
            · exact hQ.out _ (by repeat (first | (with_reducible exact Keeps.refl _ _) | (with_reducible refine Keeps.drew ?_) | (with_reducible refine Keeps.drewN ?_ _) | (with_reducible refine Keeps.trans ?_ (by assumption) (fun _ _ h => h))))
            have hS := hE (by kernel_rfl)
            clear hK K hE
            try simp only [Act.put, List.setIfInBounds_toArray, List.set_cons_zero, List.set_cons_succ]
            refine wpAnyT_ready (rs := [9]) (by kernel_rfl) rfl ?_
            refine AllT.cons (o := { dst := some 80, op := Op.call { callee := Callee.value (Operand.func 12), args := #[Operand.tmp 71, Operand.tmp 72, Operand.tmp 77, Operand.tmp 78, Operand.tmp 79], argTypes := #[31, 45, 36, 35, 27] }, type := 4, pos := "types.go:697", after := #[⟨0, .data⟩, ⟨1, .data⟩, ⟨6, .data⟩, ⟨7, .data⟩, ⟨8, .data⟩, ⟨6, .chain⟩], guard := none }) rfl (fun K hK => ?_) ?_
            · (go_simp; go_at_call 12; with_reducible refine (HPv.out _ _ (by repeat (first | (with_reducible exact Keeps.refl _ _) | (with_reducible refine Keeps.drew ?_) | (with_reducible refine Keeps.drewN ?_ _) | (with_reducible refine Keeps.trans ?_ (by assumption) (fun _ _ h => h)))) hsl6).mono ?_; rintro e w8 ⟨rfl, hk8⟩; go_wp2_with fail)
              refine hK.out _ _ (fun _ => ?_) (fun hE => ?_)
              · exact hQ.out _ (by repeat (first | (with_reducible exact Keeps.refl _ _) | (with_reducible refine Keeps.drew ?_) | (with_reducible refine Keeps.drewN ?_ _) | (with_reducible refine Keeps.trans ?_ (by assumption) (fun _ _ h => h))))
              have hS := hE (by kernel_rfl)
              clear hK K hE
              try simp only [Act.put, List.setIfInBounds_toArray, List.set_cons_zero, List.set_cons_succ]
              refine wpAnyT_ready (rs := [10]) (by kernel_rfl) rfl ?_
              refine AllT.cons (o := { dst := some 10, op := Op.assign (Operand.tmp 80), type := 4, pos := "types.go:697", after := #[⟨9, .data⟩, ⟨9, .chain⟩, ⟨0, .phase⟩, ⟨1, .phase⟩, ⟨2, .phase⟩, ⟨3, .phase⟩, ⟨4, .phase⟩, ⟨5, .phase⟩, ⟨6, .phase⟩, ⟨7, .phase⟩, ⟨8, .phase⟩, ⟨9, .phase⟩], guard := none }) rfl (fun K hK => ?_) ?_
              · go_simp
                refine hK.out _ _ (fun _ => ?_) (fun hE => ?_)
                · exact hQ.out _ (by repeat (first | (with_reducible exact Keeps.refl _ _) | (with_reducible refine Keeps.drew ?_) | (with_reducible refine Keeps.drewN ?_ _) | (with_reducible refine Keeps.trans ?_ (by assumption) (fun _ _ h => h))))
                have hS := hE (by kernel_rfl)
                clear hK K hE
                try simp only [Act.put, List.setIfInBounds_toArray, List.set_cons_zero, List.set_cons_succ]
                refine wpAnyT_done (by kernel_rfl) ?_ _
                refine NoPanic.normal ?_
                have HKF := Lib.hid (show Keeps (fun _ => False) wc w8 from (by repeat (first | (with_reducible exact Keeps.refl _ _) | (with_reducible refine Keeps.drew ?_) | (with_reducible refine Keeps.drewN ?_ _) | (with_reducible refine Keeps.trans ?_ (by assumption) (fun _ _ h => h)))))
                go_wp2_with fail
                go_ret
                exact ⟨rfl, HBel.out _ HKF.out⟩
              exact AllT.nil
            exact AllT.nil
          exact AllT.nil
        exact AllT.nil
      refine AllT.cons (o := { dst := some 76, op := Op.buildSlice 36 1 #[(0, Operand.tmp 75)], type := 36, pos := "types.go:697", after := #[⟨4, .data⟩], guard := none }) rfl (fun K hK => ?_) ?_
      · (go_simp; refine name_world ?_; intro w5 hw5; (first | (obtain ⟨hB5, hk5, _⟩ := blk_of_alloc (V := wc) (cs := [.string more.cls, .int .i64 more.ty.kind, .string more.ty.name, .int .i64 more.ty.var, .slice Am more.ty.args.length cm]) hw5 (by repeat (first | (with_reducible exact Keeps.refl _ _) | (with_reducible refine Keeps.drew ?_) | (with_reducible refine Keeps.drewN ?_ _) | (with_reducible refine Keeps.trans ?_ (by assumption) (fun _ _ h => h))))) | (obtain ⟨hB5, hk5, _⟩ := blk_of_alloc_d (V := wc) (cs := [.string more.cls, .int .i64 more.ty.kind, .string more.ty.name, .int .i64 more.ty.var, .slice Am more.ty.args.length cm]) hw5 (by repeat (first | (with_reducible exact Keeps.refl _ _) | (with_reducible refine Keeps.drew ?_) | (with_reducible refine Keeps.drewN ?_ _) | (with_reducible refine Keeps.trans ?_ (by assumption) (fun _ _ h => h)))))); clear hw5)
        refine hK.out _ _ (fun _ => ?_) (fun hE => ?_)
        · exact hQ.out _ (by repeat (first | (with_reducible exact Keeps.refl _ _) | (with_reducible refine Keeps.drew ?_) | (with_reducible refine Keeps.drewN ?_ _) | (with_reducible refine Keeps.trans ?_ (by assumption) (fun _ _ h => h))))
        have hS := hE (by kernel_rfl)
        clear hK K hE
        try simp only [Act.put, List.setIfInBounds_toArray, List.set_cons_zero, List.set_cons_succ]
        refine wpAnyT_ready (rs := [3]) (by kernel_rfl) rfl ?_
        refine AllT.cons (o := { dst := some 74, op := Op.call { callee := Callee.value (Operand.func 13), args := #[Operand.tmp 73], argTypes := #[36] }, type := 36, pos := "types.go:697", after := #[⟨2, .data⟩], guard := none }) rfl (fun K hK => ?_) ?_
        · (go_simp; go_at_call 13; with_reducible refine (HCl5.out _ (by repeat (first | (with_reducible exact Keeps.refl _ _) | (with_reducible refine Keeps.drew ?_) | (with_reducible refine Keeps.drewN ?_ _) | (with_reducible refine Keeps.trans ?_ (by assumption) (fun _ _ h => h))))).mono ?_; rintro e wq ⟨u, xs, rfl, hown, hxs, hkq⟩; go_wp2_with fail; have hB5 := hB5.keeps (X := fun _ => False) (show Keeps (fun _ => False) _ wq from (by repeat (first | (with_reducible exact Keeps.refl _ _) | (with_reducible refine Keeps.drew ?_) | (with_reducible refine Keeps.drewN ?_ _) | (with_reducible refine Keeps.trans ?_ (by assumption) (fun _ _ h => h))))) (fun h => h))
          refine hK.out _ _ (fun _ => ?_) (fun hE => ?_)
          · exact hQ.out _ (by repeat (first | (with_reducible exact Keeps.refl _ _) | (with_reducible refine Keeps.drew ?_) | (with_reducible refine Keeps.drewN ?_ _) | (with_reducible refine Keeps.trans ?_ (by assumption) (fun _ _ h => h))))
          have hS := hE (by kernel_rfl)
          clear hK K hE
          try simp only [Act.put, List.setIfInBounds_toArray, List.set_cons_zero, List.set_cons_succ]
          refine wpAnyT_ready (rs := [6]) (by kernel_rfl) rfl ?_
          refine AllT.cons (o := { dst := some 77, op := Op.call { callee := Callee.builtin Builtin.append, args := #[Operand.tmp 74, Operand.tmp 76], argTypes := #[36, 36] }, type := 36, pos := "types.go:697", after := #[⟨3, .data⟩, ⟨5, .data⟩, ⟨3, .chain⟩], guard := none }) rfl (fun K hK => ?_) ?_
          · (refine step_append_kept2 (W0 := wq) rfl (.tmp 74) (.tmp 76) 36 rfl B0 35 i0 _ 5 72 Tryd.underlying36 hi0 hz0 hz1 hz2 rfl (by decide) u hs.length xs rfl hown (by repeat (first | (with_reducible exact Keeps.refl _ _) | (with_reducible refine Keeps.drew ?_) | (with_reducible refine Keeps.drewN ?_ _) | (with_reducible refine Keeps.trans ?_ (by assumption) (fun _ _ h => h)))) _ _ #[.string more.cls, .int .i64 more.ty.kind, .string more.ty.name, .int .i64 more.ty.var, .slice Am more.ty.args.length cm] rfl rfl hB5 (by simp [Value.oneCell']) HMq.out HBq.out (by have h1 := Keeps.size (show Keeps (fun _ => False) wc wq from (by repeat (first | (with_reducible exact Keeps.refl _ _) | (with_reducible refine Keeps.drew ?_) | (with_reducible refine Keeps.drewN ?_ _) | (with_reducible refine Keeps.trans ?_ (by assumption) (fun _ _ h => h))))); have h2 := HB0.out; omega) ?_; intro g1 cap1 w6 hown1 hk1 hkp1 hat1; have hsl6 := pred_more HQ2.out.1 HQ2.out.2 hxs (show Keeps (fun _ => False) wc wq from (by repeat (first | (with_reducible exact Keeps.refl _ _) | (with_reducible refine Keeps.drew ?_) | (with_reducible refine Keeps.drewN ?_ _) | (with_reducible refine Keeps.trans ?_ (by assumption) (fun _ _ h => h))))) hk1 (fun i h => (hown.lt i h).1) hown1 HWT.out; have hk46 : Keeps (fun _ => False) wc w6 := Keeps.trans (show Keeps (fun _ => False) wc wq from (by repeat (first | (with_reducible exact Keeps.refl _ _) | (with_reducible refine Keeps.drew ?_) | (with_reducible refine Keeps.drewN ?_ _) | (with_reducible refine Keeps.trans ?_ (by assumption) (fun _ _ h => h))))) hk1 (fun i hi h => by have h1 := (hown.lt i h).1; have h2 := HB0.out; omega))
            refine hK.out _ _ (fun _ => ?_) (fun hE => ?_)
            · exact hQ.out _ (by repeat (first | (with_reducible exact Keeps.refl _ _) | (with_reducible refine Keeps.drew ?_) | (with_reducible refine Keeps.drewN ?_ _) | (with_reducible refine Keeps.trans ?_ (by assumption) (fun _ _ h => h))))
            have hS := hE (by kernel_rfl)
            clear hK K hE
            try simp only [Act.put, List.setIfInBounds_toArray, List.set_cons_zero, List.set_cons_succ]
            refine wpAnyT_ready (rs := [9]) (by kernel_rfl) rfl ?_
            refine AllT.cons (o := { dst := some 80, op := Op.call { callee := Callee.value (Operand.func 12), args := #[Operand.tmp 71, Operand.tmp 72, Operand.tmp 77, Operand.tmp 78, Operand.tmp 79], argTypes := #[31, 45, 36, 35, 27] }, type := 4, pos := "types.go:697", after := #[⟨0, .data⟩, ⟨1, .data⟩, ⟨6, .data⟩, ⟨7, .data⟩, ⟨8, .data⟩, ⟨6, .chain⟩], guard := none }) rfl (fun K hK => ?_) ?_
            · (go_simp; go_at_call 12; with_reducible refine (HPv.out _ _ (by repeat (first | (with_reducible exact Keeps.refl _ _) | (with_reducible refine Keeps.drew ?_) | (with_reducible refine Keeps.drewN ?_ _) | (with_reducible refine Keeps.trans ?_ (by assumption) (fun _ _ h => h)))) hsl6).mono ?_; rintro e w8 ⟨rfl, hk8⟩; go_wp2_with fail)
              refine hK.out _ _ (fun _ => ?_) (fun hE => ?_)
              · exact hQ.out _ (by repeat (first | (with_reducible exact Keeps.refl _ _) | (with_reducible refine Keeps.drew ?_) | (with_reducible refine Keeps.drewN ?_ _) | (with_reducible refine Keeps.trans ?_ (by assumption) (fun _ _ h => h))))
              have hS := hE (by kernel_rfl)
              clear hK K hE
              try simp only [Act.put, List.setIfInBounds_toArray, List.set_cons_zero, List.set_cons_succ]
              refine wpAnyT_ready (rs := [10]) (by kernel_rfl) rfl ?_
              refine AllT.cons (o := { dst := some 10, op := Op.assign (Operand.tmp 80), type := 4, pos := "types.go:697", after := #[⟨9, .data⟩, ⟨9, .chain⟩, ⟨0, .phase⟩, ⟨1, .phase⟩, ⟨2, .phase⟩, ⟨3, .phase⟩, ⟨4, .phase⟩, ⟨5, .phase⟩, ⟨6, .phase⟩, ⟨7, .phase⟩, ⟨8, .phase⟩, ⟨9, .phase⟩], guard := none }) rfl (fun K hK => ?_) ?_
              · go_simp
                refine hK.out _ _ (fun _ => ?_) (fun hE => ?_)
                · exact hQ.out _ (by repeat (first | (with_reducible exact Keeps.refl _ _) | (with_reducible refine Keeps.drew ?_) | (with_reducible refine Keeps.drewN ?_ _) | (with_reducible refine Keeps.trans ?_ (by assumption) (fun _ _ h => h))))
                have hS := hE (by kernel_rfl)
                clear hK K hE
                try simp only [Act.put, List.setIfInBounds_toArray, List.set_cons_zero, List.set_cons_succ]
                refine wpAnyT_done (by kernel_rfl) ?_ _
                refine NoPanic.normal ?_
                have HKF := Lib.hid (show Keeps (fun _ => False) wc w8 from (by repeat (first | (with_reducible exact Keeps.refl _ _) | (with_reducible refine Keeps.drew ?_) | (with_reducible refine Keeps.drewN ?_ _) | (with_reducible refine Keeps.trans ?_ (by assumption) (fun _ _ h => h)))))
                go_wp2_with fail
                go_ret
                exact ⟨rfl, HBel.out _ HKF.out⟩
              exact AllT.nil
            exact AllT.nil
          exact AllT.nil
        exact AllT.nil
      exact AllT.nil
    · have hb2 : (r2 != 0) = true := by simpa using hr2
      have hk4W := HKWc.out
      have hsW4 := hk4W.size
      have HFi := Lib.hid (find_any l more.cls vl (· < W.heap.size) wc (HVl.out.keeps hk4W (fun _ _ h => h)) (fun b hb => by have h1 : b < W.heap.size := hb; omega))
      have x0 := HX8.out.cell (i := 0) rfl
      clear hk4W
      go_wp2_with fail
      with_reducible refine HFi.out.mono ?_
      rintro e w9 ⟨hk9, (⟨c3, A3', q3, A4', n4, q4, hfc, rfl, hS3⟩ | ⟨hfc, rfl⟩)⟩
      · obtain ⟨W9, hW9⟩ : ∃ W9, w9.alloc (.cells #[.string c3.name, .slice A3' c3.super.length q3, .slice A4' n4 q4] 42) = W9 := ⟨_, rfl⟩
        have hk99 : Keeps (fun _ => False) wc W9 := by rw [← hW9]; exact hk9.alloc _
        have hx8 := HX8.out.keeps hk99 (fun h => h)
        have x1 := hx8.cell (i := 1) rfl
        have x2 := hx8.cell (i := 2) rfl
        have x3 := hx8.cell (i := 3) rfl
        have x4 := hx8.cell (i := 4) rfl
        have hs99 := hk99.size
        obtain ⟨ce, hce⟩ : ∃ ce, (chk more.ty 4096 false 1).1 = ce := ⟨_, rfl⟩
        have HCk : Hid (Calls Tryd.prog 11 #[.agg #[.int .i64 more.ty.kind, .string more.ty.name, .int .i64 more.ty.var, .slice Am more.ty.args.length cm]] W9 (fun e w' => e = .returned (.int .i64 ce) ∧ Keeps (fun _ => False) W9 w')) := by
          have hkX := HKWc.out.trans hk99 (fun _ _ h => h)
          have hx := check_any more.ty W9 (fun b => b < W9.heap.size) _ ((HTm.out.keeps hkX (fun _ _ h => h)).mono (fun b hb => by have h1 : b < W.heap.size := hb; omega)) (fun _ h => h) (HZ.out.keeps hkX (fun h => h))
          unfold tyV at hx
          refine hx.mono ?_
          rintro e w' ⟨he, hb⟩
          exact ⟨by rw [he, hce], Keeps.of_below (X := fun _ => False) hb⟩
        have HR2 : Hid (ce = 0 → r2 = 2) := fun h => by
          rcases HWk.out with h1 | h1 | h1 | h1
          · exact absurd h1 hr2
          · exact h1
          · rw [hfc] at h1; cases h1
          · rw [hce] at h1; exact absurd h h1
        have HK9 := Lib.hid hk99
        have HW9 := Lib.hid hW9
        clear hk9 hk99 hx8 hs99 hce hfc hS3 hW9 hsW4 x0 HFi hr2
        go_upto_region 10 with (fail)
        rw [HW9.out]
        go_wp2_with fail
        with_reducible refine HCk.out.mono ?_
        rintro e w10 ⟨rfl, hk10⟩
        have HK10 := Lib.hid (HK9.out.trans hk10 (fun _ _ h => h))
        clear hk10 x1 x2 x3 x4
        by_cases hce : ce = 0
        · have hb3 : (ce != 0) = false := by simpa using hce
          have hr2 := HR2.out hce
          subst hr2
          clear hce
          go_wp2_with fail
          go_ret
          exact ⟨rfl, HBel.out _ HK10.out⟩
        · have hb3 : (ce != 0) = true := by simpa using hce
          clear hce
          go_wp2_with fail
          go_ret
          exact ⟨rfl, HBel.out _ HK10.out⟩
      · have HK9 := Lib.hid hk9
        clear hk9 hfc x0 HFi hr2
        go_wp2_with fail
        go_ret
        exact ⟨rfl, HBel.out _ (HK9.out.alloc _)⟩

theorem own : ownKnob Tryd.prog.godebug = none := by kernel_rfl
theorem gSizes : Tryd.prog.globalNamed "provenance/unify.sizes" = some 0 := by kernel_rfl
theorem szs_of_laid {W : World} (h : laidMetH Tryd.prog Rows.classesWeakenedRow.laid W) : Szs W := by
  have h1 := h.filter (fun x => x.1 == "provenance/unify.sizes")
  have e1 : Rows.classesWeakenedRow.laid.filter (fun x => x.1 == "provenance/unify.sizes") = [("provenance/unify.sizes", Lib.tabData .i64 [0, -1, 3, 1, 0, 2])] := by kernel_rfl
  have h2 : laidMetH Tryd.prog [("provenance/unify.sizes", Lib.tabData .i64 [0, -1, 3, 1, 0, 2])] W := by rw [e1] at h1; exact h1
  rw [MakeChecks.laidMetH_plain _ _ _ (by kernel_rfl)] at h2
  have ht := Lib.tabIs_of_head gSizes (by kernel_rfl) Tryd.underlying84 Tryd.underlying3 (by kernel_rfl) (by kernel_rfl) h2
  unfold Lib.TabIs at ht
  exact ⟨by rw [World.var?_cell gSizes ht]; rfl, by rw [World.var?_cell gSizes ht]; rfl, by rw [World.var?_cell gSizes ht]; rfl, by rw [World.var?_cell gSizes ht]; rfl, by rw [World.var?_cell gSizes ht]; rfl, by rw [World.var?_cell gSizes ht]; rfl⟩

theorem laid : laidOutB Tryd.prog = true := by kernel_rfl

set_option maxRecDepth 100000 in
theorem lifted (os : Os) (started : os.Started) (H : Type) (enc : TypeId × Value → H) :
    ReturnsInHanded {} Tryd.checked os 4 .any (fun w args => (Rows.classesWeakenedSpec.pre enc Tryd.prog Tryd.f4 [] false w args ∧ laidMetH Tryd.prog Rows.classesWeakenedRow.laid w) ∧ sizedMet enc Tryd.prog Tryd.f4 (OpenSpec.ofChange Rows.classesWeakenedSpec) false w args)
      (Rows.classesWeakenedSpec.post enc Tryd.prog Tryd.f4 false true false false) := by
  refine handed_shaped_laid (C := Tryd.checked) (L := Rows.classesWeakenedRow.laid) own started (by kernel_rfl) Tryd.func4
    (ChangeSpec.witness_shaped (enc := enc) (C := Tryd.checked) (os := os) (X := fun w _ => laidMetH Tryd.prog Rows.classesWeakenedRow.laid w) false (World.laidAll Tryd.prog os Rows.classesWeakenedRow.laid) #[.slice none 0 0, .slice none 0 0, .slice none 0 0, .agg #[.string ⟨#[]⟩, .int .i64 0, .string ⟨#[]⟩, .int .i64 0, .slice none 0 0], .agg #[.string ⟨#[]⟩, .int .i64 0, .string ⟨#[]⟩, .int .i64 0, .slice none 0 0]] 8 (World.laidAll_os _ _ _)
      (World.shaped_of_ZipB (by kernel_rfl) (by kernel_rfl)) (by kernel_rfl) (by kernel_rfl) (by kernel_rfl)
      (by rw [MakeChecks.laidMetH_plain _ _ _ (by kernel_rfl)]; exact laidMet_laidAll _ (by kernel_rfl) (by kernel_rfl))) ?_
  intro W base args ds gs before hval0 hW hsz0 _ hlaid
  have hz := szs_of_laid hlaid
  have hval : ∀ (j : Nat) t v, Tryd.f4.params[j]? = some t → args[j]? = some v → Value.okWide Tryd.prog W .any base t v := hval0
  have hW' := hW
  obtain ⟨p, q, hA0, hV, hbef, hfz, hnd⟩ := hW
  have hA : DataW.TrodAll enc Tryd.prog W 0 (fun _ => true) true Tryd.f4.params.toList args.toList ds p := hA0
  rw [Tryd.params4] at hA hval
  obtain ⟨v0, vs0, d0, ds0, p0, q0, hargs, hds, rfl, h0, r0⟩ := trodAll_cons hA
  obtain ⟨v1, vs1, d1, ds1, p1, q1, rfl, rfl, rfl, h1, r1⟩ := trodAll_cons r0
  obtain ⟨v2, vs2, d2, ds2, p2, q2, rfl, rfl, rfl, h2, r2⟩ := trodAll_cons r1
  obtain ⟨v3, vs3, d3, ds3, p3, q3, rfl, rfl, rfl, h3, r3⟩ := trodAll_cons r2
  obtain ⟨v4, vs4, d4, ds4, p4, q4, rfl, rfl, rfl, h4, r4⟩ := trodAll_cons r3
  obtain ⟨rfl, rfl, rfl⟩ := trodAll_nil r4
  obtain rfl : args = #[v0, v1, v2, v3, v4] := by cases args; simp_all
  obtain ⟨rfl, _⟩ := trodVars_none hV
  subst hds
  obtain ⟨a0, s0⟩ := sl_of_arg (f := ClassSig.d) (k := 3) Tryd.underlying31 (by kernel_rfl) (by decide) (fun _ _ _ h => ClassSig.of_trod h) (hval 0 31 v0 rfl rfl) h0
  have hsz : (DataW.weightsEach Tryd.prog (Tryd.f4.params.toList ++ Rows.classesWeakenedSpec.plain.varTypes Tryd.prog) _).all (· ≤ reachBytes) = true := hsz0
  rw [Tryd.params4] at hsz
  obtain ⟨a1, s1, b1⟩ := insts_of_arg (hval 1 45 v1 rfl rfl) h1 (weight_at hsz (j := 1) rfl rfl)
  obtain ⟨a2, s2, b2⟩ := sl_of_arg_sized (f := Pred.d) (k := 5) Tryd.underlying36 (by kernel_rfl) (by decide) (fun _ _ _ h => Pred.of_trod h) (hval 2 36 v2 rfl rfl) h2 (weight_at hsz (j := 2) rfl rfl)
  rw [show Tryd.prog.bytesOf 35 = 72 from by kernel_rfl] at b2
  obtain ⟨a3, c3, rfl, s3⟩ := rp_of_arg (f := Pred.d) Tryd.underlying35 (fun _ _ _ h => Pred.of_trod h) (hval 3 35 v3 rfl rfl) h3
  obtain ⟨av3, rfl, k3, T3⟩ := Pred.rp.1 s3
  obtain ⟨A3, q3, rfl, _⟩ := T3.form
  obtain ⟨a4, c4, rfl, s4⟩ := rp_of_arg (f := Pred.d) Tryd.underlying35 (fun _ _ _ h => Pred.of_trod h) (hval 4 35 v4 rfl rfl) h4
  obtain ⟨av4, rfl, k4, T4⟩ := Pred.rp.1 s4
  obtain ⟨A4, q4, rfl, _⟩ := T4.form
  refine (walk a0 a1 a2 a3 a4 (fun x hx => b1 x hx) b2 v0 v1 v2 A3 A4 q3 q4 W s0 s1 s2 k3 T3 k4 T4 hz).mono fun e W' ⟨he, hb⟩ => ?_
  subst he
  exact ⟨_, rfl, law_post laid (by kernel_rfl) rfl Tryd.underlying4 rfl rfl rfl rfl hW' hb⟩

theorem over : Rows.classesWeakenedRow.holds Tryd.pinned (OpenSpec.ofChange Rows.classesWeakenedSpec) :=
  OpenClaim.holds_of_wide 4 Tryd.f4 rfl rfl rfl rfl rfl rfl rfl ⟨rfl, rfl, rfl, rfl, rfl⟩ rfl rfl rfl rfl rfl (by kernel_rfl) Tryd.func4 (by kernel_rfl)
    (of_decide_eq_true (by kernel_rfl)) (by unfold Func.isWrapper; first | (rw [if_pos (by decide +kernel)]; kernel_rfl) | (rw [if_neg (by decide +kernel)]; exact ⟨rfl, rfl⟩))
    (fun os started H enc _ => lifted os started H enc)

theorem proved : Rows.ClassesWeakenedCardSaid :=
  Claim7.holds_tied_plain_at .later [] [.data, .data, .data, .data] true Rows.classesWeakenedCard.stood.harness false over (fun _ h => by cases h) (by kernel_rfl) (fun _ h => by cases h) classesWeakened_row_tie rfl ⟨rfl, rfl⟩ (by kernel_rfl) rfl
    (fun f fn hf hfn => by
      obtain rfl : f = 4 := Option.some.inj ((show Tryd.prog.funcNamed Tryd.f4.name = some 4 by kernel_rfl).symm.trans hf) |>.symm
      obtain rfl : fn = Tryd.f4 := (Option.some.inj (Tryd.func4.symm.trans hfn)).symm
      exact ⟨by kernel_rfl, fun j t ht => by
        rw [Tryd.params4] at ht
        have hm : t ∈ [31, 45, 36, 35] := by simpa using Array.mem_of_getElem? ht
        have hall : ([31, 45, 36, 35].all fun u => !Tryd.prog.wantsStandIn u) = true := by kernel_rfl
        exact (show Tryd.prog.wantsStandIn t = false by simpa using List.all_eq_true.1 hall t hm)⟩)
    (by kernel_rfl)
#print axioms proved
end Go.Proofs.YtdljlpogljjldaaDoor.classesWeakened

