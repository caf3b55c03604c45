/- classes.reduce: the walk. -/
import Derived.Test.YtdljlpogljjldaaDoorCRedW
namespace Go.Proofs.YtdljlpogljjldaaDoor
open Go.RowKit Go.Shelf Go.Sort

set_option maxRecDepth 100000 in
set_option maxHeartbeats 16000000 in
theorem reduce_step (insts : List InstSig) (hok : InstOk insts) (q : Nat) (ih : RedAt insts q) : RedAt insts (q + 1) := by
  intro W F G vi A c p depth left bo bl ov U e out' left' hvi hF hT hG hps hgat hblo hovl hbl hl0 hl1 hd0 hd1 hr
  obtain ⟨i0, hi0, hz0, hz1, hz2⟩ := info_parts infoPred
  obtain ⟨Au, cu, rfl⟩ := own_slform hgat.own
  obtain ⟨b6, hb6⟩ : ∃ b6, W.heap.size = b6 := ⟨_, rfl⟩
  obtain ⟨W0, hW0⟩ : ∃ W0, W.alloc (.cells #[.string p.cls, .int .i64 p.ty.kind, .string p.ty.name, .int .i64 p.ty.var, .slice A p.ty.args.length c] 35) = W0 := ⟨_, rfl⟩
  have hk0 : Keeps (fun _ => False) W W0 := by rw [← hW0]; exact (Keeps.refl _ _).alloc _
  have hB6 : Blk W0 b6 35 [.string p.cls, .int .i64 p.ty.kind, .string p.ty.name, .int .i64 p.ty.var, .slice A p.ty.args.length c] := by rw [← hW0, ← hb6]; exact Blk.new W _ [_, _, _, _, _]
  have hbll := hbl.lt
  have hbol := hgat.box.lt
  have hbl0 := hbl.keeps hk0 (fun h => h)
  have l0 := hbl0.cell (i := 0) rfl
  have lf := hbl0.free 0
  obtain ⟨W1, hW1⟩ : ∃ W1, W0.setCell ⟨bl, 0, none⟩ (.int .i64 (left - 1)) = W1 := ⟨_, rfl⟩
  have hk1 : Keeps (· = bl) W0 W1 := by rw [← hW1]; exact (Keeps.refl (· = bl) W0).setCell (p := ⟨bl, 0, none⟩) (fun _ => rfl) _
  have hbl1 : Blk W1 bl 3 [.int .i64 (left - 1)] := by rw [← hW1]; exact hbl0.set_ 0 _
  have hkW1 : Keeps (· = bl) W W1 := (hk0.mono (fun _ _ h => h.elim)).trans hk1 (fun _ _ h => h)
  have hsW1 := hkW1.size
  have hz1' : W1.heap.size = b6 + 1 := by rw [← hW1, ← hW0, ← hb6]; simp
  have HB6 := Lib.hid (hB6.keeps hk1 (by omega))
  have HVi := Lib.hid (hvi.keeps hkW1 (fun i hi => (hF i hi).2.1))
  have HT1 := Lib.hid (hT.keeps hkW1 (fun i hi => (hG i hi).2.1))
  have HGat := Lib.hid (Gat.keeps (X := (· = bl)) hgat hkW1 (fun h => hblo (show bo = bl from h).symm) (fun i hi h => hovl (by have h2 : i = bl := h; rw [← h2]; exact hi)) (fun i h _ => h))
  have HF1 : Hid (∀ b, F b → SafeR W1 bl bo (.slice Au U.length cu) b) := fun b hb => ⟨by have := (hF b hb).1; omega, (hF b hb).2⟩
  have HG1 : Hid (∀ b, G b → SafeR W1 bl bo (.slice Au U.length cu) b) := fun b hb => ⟨by have := (hG b hb).1; omega, (hG b hb).2⟩
  have HOl : Hid (∀ i, (Value.slice Au U.length cu).ownBlock = some i → i < b6) := fun i hi => by show i < b6; rw [← hb6]; exact (hgat.own.lt i hi).2
  have HBl := Lib.hid hbl1
  have HKW := Lib.hid hkW1
  have HW0 := Lib.hid hW0
  have HW1 := Lib.hid hW1
  have HBn := Lib.hid hb6
  have HZ1 := Lib.hid hz1'
  have HPs := Lib.hid hps
  have HIH := Lib.hid ih
  have HOk := Lib.hid hok
  have HNl := Lib.hid hovl
  have HBlo := Lib.hid hblo
  have HBL6 : Hid (bl < b6 ∧ bo < b6) := by show _ ∧ _; omega
  have HLn := Lib.hid (show (U.length : Int) + left ≤ 4096 from hl1)
  have hu1 : U.length + 1 ≤ 1954687338 := by omega
  have hl4 : left ≤ 4096 := by omega
  rw [reduceP] at hr
  have HR := Lib.hid hr
  clear hk0 hB6 hbl0 hW0 hk1 hbl1 hkW1 hsW1 hz1' hvi hT hps ih hok hr hW1 hb6 hbl hF hG hbll hbol hgat hovl hblo hl1
  go_enter Tryd.func25, Tryd.ntmps25
  go_upto_region 1 with (fail)
  rw [HW0.out, HBn.out]
  go_upto_region 2 with (fail)
  rw [HW1.out]
  clear l0 lf
  have l1 := HBl.out.cell (i := 0) rfl
  by_cases hbad : 400 < depth ∨ left - 1 < 0
  · have hr := HR.out
    rw [if_pos hbad] at hr
    simp only [Option.some.injEq, Prod.mk.injEq] at hr
    obtain ⟨rfl, rfl, rfl⟩ := hr
    have HP : Hid (RedPost bl bo (.slice Au U.length cu) W 2 (U.map Prod.fst) (left - 1) (.returned (.int .i64 2)) W1) :=
      ⟨_, U, HGat.out, rfl, HNl.out, .inl rfl, HBl.out, HKW.out.mono (fun _ _ h => .inl h), rfl⟩
    by_cases hd2 : 400 < depth
    · clear hbad
      go_wp2_with fail
      go_ret
      exact HP.out
    · have hl2 : left - 1 < 0 := hbad.resolve_left hd2
      clear hbad
      go_wp2_with fail
      go_ret
      exact HP.out
  · have HR1 := Lib.hid ((if_neg hbad).symm.trans HR.out)
    have hd2 : ¬ 400 < depth := fun h => hbad (.inl h)
    have hl2 : ¬ left - 1 < 0 := fun h => hbad (.inr h)
    clear hbad HR
    have w0 := HB6.out.cell (i := 0) rfl
    have w1 := HB6.out.cell (i := 1) rfl
    have w2 := HB6.out.cell (i := 2) rfl
    have w3 := HB6.out.cell (i := 3) rfl
    have w4 := HB6.out.cell (i := 4) rfl
    have hl6 := HB6.out.lt
    by_cases hk : p.ty.kind = 0
    · have hkb : (p.ty.kind == 0) = true := by rw [hk]; rfl
      have HR2 := Lib.hid ((if_pos hk).symm.trans HR1.out)
      obtain ⟨qa, hqa⟩ : ∃ qa, (U.map Prod.fst).any (fun x => decide (x.cls = p.cls) && decide (x.ty.var = p.ty.var)) = qa := ⟨_, rfl⟩
      have hSl : Sl W1 (fun b => b < W1.heap.size) Pred.d (U.map Prod.fst) (.slice Au U.length cu) := by
        have h1 := pr_rp (w := W1) (F := SafeR W1 bl bo (.slice Au U.length cu)) HGat.out.each
        have h2 : U.length = (U.map Prod.fst).length := by simp
        have h3 := HGat.out.own
        rw [h2] at h3 h1 ⊢
        exact Sl.of_own h3 rfl h1 (fun b hb => by have := hb.1; simpa using this) (fun b hb => (h3.lt b hb).2)
      have hCo := predContainsFunc (U.map Prod.fst) _ _ W1 hSl 36 #[.pointer (some ⟨b6, 0, none⟩)] (fun x => decide (x.cls = p.cls) && decide (x.ty.var = p.ty.var)) (enters_of Tryd.func36 (by kernel_rfl) rfl) (fun i hi cs w1 hb hx => red_clo _ p _ w1 b6 cs _ (HB6.out.keeps (Keeps.of_below (X := fun _ => False) hb) (fun h => h)) hx)
      rw [hqa] at hCo
      have HCo := Lib.hid hCo
      have HQa := Lib.hid hqa
      have o0 := HGat.out.box.cell (i := 0) rfl
      clear hSl hCo hqa hk
      go_wp2_with fail
      with_reducible refine HCo.out.mono ?_
      rintro e' wq ⟨rfl, hb⟩
      have hkq : Keeps (fun _ => False) W1 wq := Keeps.of_below hb
      have HGq := Lib.hid (Gat.keeps (bl := bl) HGat.out hkq (fun h => h) (fun _ _ h => h) (fun _ h _ => h.elim))
      have HBlq := Lib.hid (HBl.out.keeps hkq (fun h => h))
      have HKq : Hid (Keeps (· = bl) W wq) := HKW.out.trans hkq (fun _ _ h => h.elim)
      have hB6q := HB6.out.keeps hkq (fun h => h)
      have HTq := Lib.hid (HT1.out.keeps hkq (fun _ _ h => h))
      have HSq := Lib.hid hkq.size
      clear w0 w1 w2 w3 w4 o0 l1 hb
      cases qa
      · have hr := HR2.out
        rw [if_neg (by rw [HQa.out]; decide)] at hr
        simp only [Option.some.injEq, Prod.mk.injEq] at hr
        obtain ⟨rfl, rfl, rfl⟩ := hr
        have HMq : Hid (U.length + 1 ≤ maxLen) := by show _ ≤ _; unfold maxLen; omega
        have HBq : Hid ((U.length + 1) * 72 ≤ 140737488355328) := by show _ ≤ _; omega
        have HBZ : Hid (0 ≤ wq.heap.size) := Nat.zero_le _
        have HB6q := Lib.hid hB6q
        have HGbox := Lib.hid HGq.out.box
        have HGown := Lib.hid HGq.out.own
        have HGne := Lib.hid HGq.out.ne
        have hQ : Hid (∀ X, Keeps (fun i => (Value.slice Au U.length cu).ownBlock = some i) wq X → (X.frozen? ⟨bo, 0, none⟩ = false ∧ X.cell? ⟨bo, 0, none⟩ = some (.slice Au U.length cu) ∧ X.cell? ⟨b6, 0, none⟩ = some (.string p.cls) ∧ X.cell? ⟨b6, 1, none⟩ = some (.int .i64 p.ty.kind) ∧ X.cell? ⟨b6, 2, none⟩ = some (.string p.ty.name) ∧ X.cell? ⟨b6, 3, none⟩ = some (.int .i64 p.ty.var) ∧ X.cell? ⟨b6, 4, none⟩ = some (.slice A p.ty.args.length c))) := fun X hk => by
          have hx := HB6q.out.keeps hk (fun h => by have := HOl.out _ h; omega)
          have hy := HGbox.out.keeps hk (fun h => HGne.out h)
          exact ⟨hy.free 0, hy.cell (i := 0) rfl, hx.cell (i := 0) rfl, hx.cell (i := 1) rfl, hx.cell (i := 2) rfl, hx.cell (i := 3) rfl, hx.cell (i := 4) rfl⟩
        clear hB6q hkq
        go_upto_region 6 with (fail)
        refine wp_region_noPanic ?_
        refine wp_region_till [8] (fun X => X.frozen? ⟨bo, 0, none⟩ = false ∧ X.cell? ⟨bo, 0, none⟩ = some (.slice Au U.length cu) ∧ X.cell? ⟨b6, 0, none⟩ = some (.string p.cls) ∧ X.cell? ⟨b6, 1, none⟩ = some (.int .i64 p.ty.kind) ∧ X.cell? ⟨b6, 2, none⟩ = some (.string p.ty.name) ∧ X.cell? ⟨b6, 3, none⟩ = some (.int .i64 p.ty.var) ∧ X.cell? ⟨b6, 4, none⟩ = some (.slice A p.ty.args.length c)) (by kernel_rfl) ?_ (fun hE => ?_)
        · first | exact hQ.out _ hk1 | exact hQ.out _ (Keeps.mono (show Keeps (fun _ => False) wq _ from (by repeat (first | (with_reducible assumption) | (with_reducible exact Keeps.refl _ _) | (with_reducible refine Keeps.drewN ?_ _) | (with_reducible refine Keeps.drew ?_) | with_reducible refine Keeps.setCell ?_ (by first | (intro _; exact rfl) | (intro _; exact Or.inl rfl) | (intro _; exact Or.inr rfl) | (simp; done) | (simp; omega)) _ | (with_reducible refine Keeps.alloc ?_ _)))) (fun _ _ h => h.elim))
        have hS := hE (by kernel_rfl)
        refine wpAnyT_pure (i := 0) (oi := { dst := some 40, op := Op.move (Operand.tmp 2), type := 68, pos := "classes.go:245", after := #[], guard := none }) (v := ?v6_0_1) rfl (by kernel_rfl) (fun _ _ _ h => h) (Or.inl ⟨by rfl, ?y6_0_1⟩) (fun _ => hS) ?_
        case y6_0_1 => (intro w hSw; go_simp; try with_reducible rfl)
        try simp only [Act.put, List.setIfInBounds_toArray, List.set_cons_zero, List.set_cons_succ]
        refine wpAnyT_pure (i := 1) (oi := { dst := some 41, op := Op.move (Operand.tmp 2), type := 68, pos := "classes.go:245", after := #[], guard := none }) (v := ?v6_1_2) rfl (by kernel_rfl) (fun _ _ _ h => h) (Or.inl ⟨by rfl, ?y6_1_2⟩) (fun _ => hS) ?_
        case y6_1_2 => (intro w hSw; go_simp; try with_reducible rfl)
        try simp only [Act.put, List.setIfInBounds_toArray, List.set_cons_zero, List.set_cons_succ]
        refine wpAnyT_pure (i := 2) (oi := { dst := some 42, op := Op.nilCheck (Operand.tmp 41), type := 0, pos := "classes.go:245", after := #[⟨1, .data⟩], guard := none }) (v := ?v6_2_3) rfl (by kernel_rfl) (fun _ _ _ h => h) (Or.inl ⟨by rfl, ?y6_2_3⟩) (fun _ => hS) ?_
        case y6_2_3 => (intro w hSw; go_simp; try with_reducible rfl)
        try simp only [Act.put, List.setIfInBounds_toArray, List.set_cons_zero, List.set_cons_succ]
        refine wpAnyT_take (i := 3) (oi := { dst := some 43, op := Op.load 36 (Operand.tmp 42), type := 36, pos := "classes.go:245", after := #[⟨2, .data⟩], guard := none }) (v := ?v6_3_4) rfl (by kernel_rfl) (fun _ _ _ h => h) (Or.inl ⟨by rfl, ?y6_3_4⟩) hS ?_
        case y6_3_4 => (intro w hSw; (try dsimp only at hSw); go_simp; try with_reducible rfl)
        try simp only [Act.put, List.setIfInBounds_toArray, List.set_cons_zero, List.set_cons_succ]
        refine wpAnyT_take (i := 4) (oi := { dst := some 44, op := Op.load 35 (Operand.tmp 6), type := 35, pos := "classes.go:245", after := #[], guard := none }) (v := ?v6_4_5) rfl (by kernel_rfl) (fun _ _ _ h => h) (Or.inl ⟨by rfl, ?y6_4_5⟩) hS ?_
        case y6_4_5 => (intro w hSw; (try dsimp only at hSw); go_simp; try with_reducible rfl)
        try simp only [Act.put, List.setIfInBounds_toArray, List.set_cons_zero, List.set_cons_succ]
        refine wpAnyT_ready (rs := [5]) (by kernel_rfl) rfl ?_
        refine AllT.cons (o := { dst := some 45, op := Op.buildSlice 36 1 #[(0, Operand.tmp 44)], type := 36, pos := "classes.go:245", after := #[⟨4, .data⟩], guard := none }) rfl (fun K hK => ?_) ?_
        · go_simp
          refine hK.out _ _ (fun _ => ?_) (fun hE => ?_)
          · first | exact hQ.out _ hk1 | exact hQ.out _ (Keeps.mono (show Keeps (fun _ => False) wq _ from (by repeat (first | (with_reducible assumption) | (with_reducible exact Keeps.refl _ _) | (with_reducible refine Keeps.drewN ?_ _) | (with_reducible refine Keeps.drew ?_) | with_reducible refine Keeps.setCell ?_ (by first | (intro _; exact rfl) | (intro _; exact Or.inl rfl) | (intro _; exact Or.inr rfl) | (simp; done) | (simp; omega)) _ | (with_reducible refine Keeps.alloc ?_ _)))) (fun _ _ h => h.elim))
          have hS := hE (by kernel_rfl)
          clear hK K hE
          try simp only [Act.put, List.setIfInBounds_toArray, List.set_cons_zero, List.set_cons_succ]
          refine wpAnyT_ready (rs := [6]) (by kernel_rfl) rfl ?_
          refine AllT.cons (o := { dst := some 46, op := Op.call { callee := Callee.builtin Builtin.append, args := #[Operand.tmp 43, Operand.tmp 45], argTypes := #[36, 36] }, type := 36, pos := "classes.go:245", after := #[⟨3, .data⟩, ⟨5, .data⟩], guard := none }) rfl (fun K hK => ?_) ?_
          · (refine step_append_kept2 (W0 := wq) rfl (.tmp 43) (.tmp 45) 36 rfl 0 35 i0 _ 5 72 Tryd.underlying36 hi0 hz0 hz1 hz2 rfl (by decide) (.slice Au U.length cu) U.length (U.flatMap prCells) rfl HGown.out (by repeat (first | (with_reducible assumption) | with_reducible exact Keeps.refl _ _ | with_reducible refine Keeps.drew ?_ | with_reducible refine Keeps.alloc ?_ _)) _ _ #[.string p.cls, .int .i64 p.ty.kind, .string p.ty.name, .int .i64 p.ty.var, .slice A p.ty.args.length c] rfl rfl (by first | exact heap_new_at (by simp) | exact heap_up (heap_new_at (by simp)) _) (by simp [Value.oneCell']) HMq.out HBq.out HBZ.out ?_; intro g1 cap1 w6 hown1 hk1 hkp1 hat1)
            refine hK.out _ _ (fun _ => ?_) (fun hE => ?_)
            · first | exact hQ.out _ hk1 | exact hQ.out _ (Keeps.mono (show Keeps (fun _ => False) wq _ from (by repeat (first | (with_reducible assumption) | (with_reducible exact Keeps.refl _ _) | (with_reducible refine Keeps.drewN ?_ _) | (with_reducible refine Keeps.drew ?_) | with_reducible refine Keeps.setCell ?_ (by first | (intro _; exact rfl) | (intro _; exact Or.inl rfl) | (intro _; exact Or.inr rfl) | (simp; done) | (simp; omega)) _ | (with_reducible refine Keeps.alloc ?_ _)))) (fun _ _ h => h.elim))
            have hS := hE (by kernel_rfl)
            clear hK K hE
            try simp only [Act.put, List.setIfInBounds_toArray, List.set_cons_zero, List.set_cons_succ]
            refine wpAnyT_pure (i := 7) (oi := { dst := some 47, op := Op.nilCheck (Operand.tmp 40), type := 0, pos := "classes.go:245", after := #[⟨0, .data⟩, ⟨0, .phase⟩, ⟨1, .phase⟩, ⟨2, .phase⟩, ⟨3, .phase⟩, ⟨4, .phase⟩, ⟨5, .phase⟩, ⟨6, .phase⟩], guard := none }) (v := ?v6_7_6) rfl (by kernel_rfl) (fun _ _ _ h => h) (Or.inl ⟨by rfl, ?y6_7_6⟩) (fun _ => hS) ?_
            case y6_7_6 => (intro w hSw; go_simp; try with_reducible rfl)
            try simp only [Act.put, List.setIfInBounds_toArray, List.set_cons_zero, List.set_cons_succ]
            refine wpAnyT_ready (rs := [8]) (by kernel_rfl) rfl ?_
            refine AllT.cons (o := { dst := none, op := Op.store 36 (Operand.tmp 47) (Operand.tmp 46), type := 0, pos := "classes.go:245", after := #[⟨7, .data⟩, ⟨6, .data⟩, ⟨6, .chain⟩, ⟨0, .phase⟩, ⟨1, .phase⟩, ⟨2, .phase⟩, ⟨3, .phase⟩, ⟨4, .phase⟩, ⟨5, .phase⟩, ⟨6, .phase⟩], guard := none }) rfl (fun K hK => ?_) ?_
            · go_simp
              refine hK.out _ _ (fun he => Bool.noConfusion (show false = true from he)) (fun hE => ?_)
              clear hK K hE
              try simp only [Act.put, List.setIfInBounds_toArray, List.set_cons_zero, List.set_cons_succ]
              refine wpAnyT_done (by kernel_rfl) ?_ _
              refine NoPanic.normal ?_
              have hat2 : (Value.slice Au U.length cu).ownBlock = some g1 ∨ wq.heap.size ≤ g1 := hat1.imp id (fun h => by (try simp at h); omega)
              obtain ⟨w7, hw7⟩ : ∃ w7, w6.setCell ⟨bo, 0, none⟩ (.slice (some ⟨g1, 0, none⟩) (U.length + 1) cap1) = w7 := ⟨_, rfl⟩
              rw [hw7]
              have hbl6 := HBL6.out
              have hsq := HSq.out
              have hz1 := HZ1.out
              have hgm := gat_more HGq.out hk1 hown1 hat2 HPs.out HTq.out (fun b hb => ⟨by have := (HG1.out b hb).1; omega, (HG1.out b hb).2⟩) hw7 (by omega) HNl.out
              have HP : Hid (RedPost bl bo (.slice Au U.length cu) W 0 (U.map Prod.fst ++ [p]) (left - 1) (.returned (.int .i64 0)) w7) :=
                ⟨_, U ++ [(p, _)], hgm.1, by simp, hgm.2.1, hat2.imp (fun h => h.symm) (fun h b hb => by have e : b = g1 := by simpa [Value.ownBlock] using hb.symm
                                                                                                         have := HBn.out; omega),
                  HBlq.out.keeps hgm.2.2 (fun h => by rcases h with h | h; exact HBlo.out h; exact HNl.out h), (HKq.out.mono (fun _ _ h => .inl h)).trans hgm.2.2 (fun _ _ h => .inr h), rfl⟩
              clear hat2 hw7 hgm hown1 hk1 hkp1 hat1 hS hz1 hbl6 hsq
              go_wp2_with fail
              go_ret
              exact HP.out
            exact AllT.nil
          exact AllT.nil
        exact AllT.nil
      · have hr := HR2.out
        rw [if_pos HQa.out] at hr
        simp only [Option.some.injEq, Prod.mk.injEq] at hr
        obtain ⟨rfl, rfl, rfl⟩ := hr
        have HP : Hid (RedPost bl bo (.slice Au U.length cu) W 0 (U.map Prod.fst) (left - 1) (.returned (.int .i64 0)) wq) :=
          ⟨_, U, HGq.out, rfl, HNl.out, .inl rfl, HBlq.out, HKq.out.mono (fun _ _ h => .inl h), rfl⟩
        clear hB6q hkq
        go_wp2_with fail
        go_ret
        exact HP.out
    · have hkb : (p.ty.kind == 0) = false := by rw [beq_eq_false_iff_ne]; exact hk
      have HR2 := Lib.hid ((if_neg hk).symm.trans HR1.out)
      have HIn := Lib.hid (instance_any insts HOk.out p vi F G W1 A c HVi.out (fun b hb => (HF1.out b hb).1) HT1.out (fun b hb => (HG1.out b hb).1))
      clear hk
      go_wp2_with fail
      with_reducible refine HIn.out.mono ?_
      rintro e' w3' ⟨hk3, (⟨ii, needs, An, cn, hin, rfl, hSn⟩ | ⟨hin, rfl⟩)⟩
      · have hr3 := HR2.out
        rw [hin] at hr3
        dsimp only at hr3
        obtain ⟨x, hxs, _, hnx, _, hii⟩ := instanceP_some hin
        have hio := HOk.out x hxs
        have hnl : needs.length * 72 ≤ 140737488351232 := by
          rw [hnx]
          have := needs_len hio.1 p
          omega
        obtain ⟨f, hf⟩ : ∃ f : Pred → List Pred → Int → Option (Int × List Pred × Int), (fun n out left => reduceP insts q n (depth + 1) out left) = f := ⟨_, rfl⟩
        rw [hf] at hr3
        have hnn63 : (needs.length : Int) ≤ 9223372036854775807 := by omega
        have hs3 := hk3.size
        have HS3 : Hid (W.heap.size ≤ w3'.heap.size ∧ W1.heap.size ≤ w3'.heap.size) := by show _ ∧ _; have := HKW.out.size; omega
        have HG3 : Hid (∀ b, ((G b ∨ W1.heap.size ≤ b) ∧ b < w3'.heap.size) → SafeR w3' bl bo (.slice Au U.length cu) b) := fun b hb => by
          rcases hb.1 with h | h
          · exact ⟨hb.2, (HG1.out b h).2⟩
          · have h1 := HBL6.out
            have h2 := HZ1.out
            exact ⟨hb.2, by omega, by omega, fun hx => by have := HOl.out b hx; omega⟩
        have HF3 : Hid (∀ b, F b → SafeR w3' bl bo (.slice Au U.length cu) b) := fun b hb => ⟨by have := (HF1.out b hb).1; omega, (HF1.out b hb).2⟩
        have HGat3 := Lib.hid (Gat.keeps (bl := bl) HGat.out hk3 (fun h => h) (fun _ _ h => h) (fun _ h _ => h.elim))
        have HBl3 := Lib.hid (HBl.out.keeps hk3 (fun h => h))
        have HK3 : Hid (Keeps (· = bl) W w3') := HKW.out.trans hk3 (fun _ _ h => h.elim)
        have HVi3 := Lib.hid (HVi.out.keeps hk3 (fun _ _ h => h))
        have HSn := Lib.hid hSn
        have HR3 := Lib.hid hr3
        have HNLn := Lib.hid hnl
        have HFf := Lib.hid hf
        obtain ⟨ow, how⟩ : ∃ ow, (Value.slice Au U.length cu).ownBlock = ow := ⟨_, rfl⟩
        have HOw := Lib.hid how
        clear hin hr3 hxs hnx hio hnl hf hk3 hSn w0 w1 w2 w3 w4 l1 HIn HR2 hii hs3 how
        go_wp2_with fail
        go_loopw [59] (fun i wr => ∃ (j : Nat) (oj : Value) (V : List (Pred × Value)) (lj : Int), j ≤ needs.length ∧ .int .i64 (j : Int) = i ∧ Gat wr bo oj V (SafeR wr bl bo oj) ∧ ¬ oj.ownBlock = some bl ∧ (oj.ownBlock = ow ∨ ∀ b, oj.ownBlock = some b → w3'.heap.size ≤ b) ∧ Blk wr bl 3 [.int .i64 lj] ∧ Keeps (fun i => i = bl ∨ i = bo ∨ ow = some i) w3' wr ∧ 0 ≤ lj ∧ (V.length : Int) + lj ≤ 4096 ∧ Hid (reduceL f needs (U.map Prod.fst) (left - 1) = reduceL f (needs.drop j) (V.map Prod.fst) lj)) (fun i _ => needs.length - (intOf i).toNat)
        case atStart => exact ⟨0, _, U, left - 1, Nat.zero_le _, rfl, HGat3.out, HNl.out, .inl HOw.out, HBl3.out, Keeps.refl _ _, by omega, by have := HLn.out; omega, rfl⟩
        case round =>
          clear HGat3 HBl3
          obtain ⟨j, oj, V, lj, hj, rfl, hgj, hnlj, hoj, hblj, hkr, hlj0, hlj1, hno⟩ := hrel
          obtain ⟨wy, hwy⟩ : ∃ wy, wy = wr := ⟨_, rfl⟩
          rw [← hwy] at hgj hblj hkr ⊢
          clear hwy
          have hS : ∀ b, SafeR w3' bl bo (.slice Au U.length cu) b → ¬ (b = bl ∨ b = bo ∨ ow = some b) := fun b hb h => by
            rcases h with h | h | h
            · exact hb.2.1 h
            · exact hb.2.2.1 h
            · exact hb.2.2.2 (HOw.out.trans h)
          by_cases hlt : j < needs.length
          · have hst := reduceL_step f needs j hlt (V.map Prod.fst) lj
            obtain ⟨gn, offn, vn, hadr, hgn, n0, n1, n2, n3, n4, hncs, hTn⟩ := Pred.get (HSn.out.keeps hkr (fun b hb => hS b (HG3.out b hb))) hlt
            obtain rfl := hadr
            obtain ⟨A1, q1, rfl, _⟩ := hTn.form
            obtain ⟨n, hn⟩ : ∃ n, needs[j] = n := ⟨_, rfl⟩
            rw [hn] at hst n0 n1 n2 n3 n4 hncs hTn
            have hr4 := HR3.out
            rw [hno.out, hst] at hr4
            have hr5 := hr4
            rw [← HFf.out] at hr5
            dsimp only at hr5
            cases hc : reduceP insts q n (depth + 1) (V.map Prod.fst) lj with
            | none => rw [hc] at hr5; cases hr5
            | some res =>
              obtain ⟨en, on, ln⟩ := res
              have hfn : f n (V.map Prod.fst) lj = some (en, on, ln) := by rw [← HFf.out]; exact hc
              rw [hfn] at hst hr4
              dsimp only at hst hr4
              clear hr5
              have hlen := reduceP_len insts q n (depth + 1) lj _ on en ln hlj0 hc
              obtain ⟨b15, hb15⟩ : ∃ b15, wy.heap.size = b15 := ⟨_, rfl⟩
              obtain ⟨W15, hW15⟩ : ∃ W15, wy.alloc (.cells #[.string n.cls, .int .i64 n.ty.kind, .string n.ty.name, .int .i64 n.ty.var, .slice A1 n.ty.args.length q1] 35) = W15 := ⟨_, rfl⟩
              have hk15 : Keeps (fun _ => False) wy W15 := by rw [← hW15]; exact (Keeps.refl _ _).alloc _
              have hB15 : Blk W15 b15 35 [.string n.cls, .int .i64 n.ty.kind, .string n.ty.name, .int .i64 n.ty.var, .slice A1 n.ty.args.length q1] := by rw [← hW15, ← hb15]; exact Blk.new wy _ [_, _, _, _, _]
              have hs15 := hk15.size
              have hsy := hkr.size
              have hsafe : ∀ b, SafeR w3' bl bo (.slice Au U.length cu) b → SafeR W15 bl bo oj b := fun b hb => ⟨by have := hb.1; omega, hb.2.1, hb.2.2.1, fun hx => by
                rcases hoj with h | h
                · exact hb.2.2.2 (HOw.out.trans (h ▸ hx))
                · have := h b hx; have := hb.1; omega⟩
              have HC := Lib.hid (HIH.out W15 F (fun b => (G b ∨ W1.heap.size ≤ b) ∧ b < w3'.heap.size) vi A1 q1 n (depth + 1) lj bo bl oj V en on ln ((HVi3.out.keeps hkr (fun b hb => hS b (HF3.out b hb))).keeps hk15 (fun _ _ h => h))
                (fun b hb => hsafe b (HF3.out b hb)) (hTn.keeps hk15 (fun _ _ h => h)) (fun b hb => hsafe b (HG3.out b hb)) hncs (Gat.keeps (bl := bl) hgj hk15 (fun h => h) (fun _ _ h => h) (fun _ h _ => h.elim)) HBlo.out hnlj (hblj.keeps hk15 (fun h => h)) hlj0 hlj1 (by omega) (by omega) hc)
              have d0 := hB15.cell (i := 0) rfl
              have d1 := hB15.cell (i := 1) rfl
              have d2 := hB15.cell (i := 2) rfl
              have d3 := hB15.cell (i := 3) rfl
              have d4 := hB15.cell (i := 4) rfl
              have hjl : (j : Int) < (needs.length : Int) := by omega
              have hj0 : (0 : Int) ≤ (j : Int) := by omega
              have HW15 := Lib.hid hW15
              have HBn15 := Lib.hid hb15
              have HNO := Lib.hid (hno.out.trans hst)
              have HR4 := Lib.hid hr4
              have HLen := Lib.hid hlen
              have HOj := Lib.hid hoj
              have HKr : Hid (Keeps (fun i => i = bl ∨ i = bo ∨ ow = some i) w3' W15) := hkr.trans hk15 (fun _ _ h => h.elim)
              have HL1 := Lib.hid hlj1
              have HSY : Hid (w3'.heap.size ≤ W15.heap.size) := by show _ ≤ _; omega
              clear hc hfn hr4 hst hno hn hTn hncs hgj hnlj hoj hblj hkr hlen hW15 hb15 hk15 hB15 hs15 hsy hsafe hS hlj1
              go_upto_region 14 with (fail)
              rw [HW15.out, HBn15.out]
              go_wp2_with fail
              with_reducible refine HC.out.mono ?_
              rintro e' w6 ⟨oj', V', hg6, hm6, hnl6, ho6, hbl6, hk6, rfl⟩
              have HO6 : Hid (oj'.ownBlock = ow ∨ ∀ b, oj'.ownBlock = some b → w3'.heap.size ≤ b) := by
                have h1 := HSY.out
                rcases ho6 with h | h
                · rw [h]; exact HOj.out
                · exact .inr (fun b hb => by have := h b hb; omega)
              have HK6 : Hid (Keeps (fun i => i = bl ∨ i = bo ∨ ow = some i) w3' w6) := HKr.out.trans hk6 (fun i hi h => by
                rcases h with h | h | h
                · exact .inl h
                · exact .inr (.inl h)
                · rcases HOj.out with h2 | h2
                  · exact .inr (.inr (h2 ▸ h))
                  · have := h2 i h; omega)
              have hvl : V'.length = on.length := by rw [← hm6]; simp
              have HG6 := Lib.hid hg6
              have HM6 := Lib.hid hm6
              have HN6 := Lib.hid hnl6
              have HB6l := Lib.hid hbl6
              have HVL := Lib.hid hvl
              clear hg6 hm6 hnl6 ho6 hbl6 hk6 d0 d1 d2 d3 d4 hvl
              by_cases he : en = 0
              · have heb : (en != 0) = false := by rw [he]; rfl
                have HNX : Hid (reduceL f needs (U.map Prod.fst) (left - 1) = reduceL f (needs.drop (j + 1)) (V'.map Prod.fst) ln) := HNO.out.trans (by rw [if_neg (fun h => h he), HM6.out])
                have hln := HLen.out.2.2.1 he
                clear he
                go_wp2_with fail
                go_roundw
                case rel => exact ⟨j + 1, oj', V', ln, by omega, by go_num, HG6.out, HN6.out, HO6.out, HB6l.out, HK6.out, hln, by have h1 := HVL.out; have h2 := HLen.out.2.2.2.1; have h3 := HL1.out; simp only [List.length_map] at h2; omega, HNX.out⟩
                case measure => simp [intOf]; omega
              · have heb : (en != 0) = true := by rw [bne_iff_ne]; exact he
                have hr5 := HR4.out
                rw [if_pos he] at hr5
                simp only [Option.some.injEq, Prod.mk.injEq] at hr5
                obtain ⟨rfl, rfl, rfl⟩ := hr5
                have HP : Hid (RedPost bl bo (.slice Au U.length cu) W en on ln (.returned (.int .i64 en)) w6) :=
                  ⟨oj', V', HG6.out, HM6.out, HN6.out, HO6.out.imp (fun h => h.trans HOw.out.symm) (fun h b hb => by have := h b hb; have := HS3.out.1; omega), HB6l.out, (HK3.out.mono (fun _ _ h => .inl h)).trans HK6.out (fun i _ h => h.imp id (fun h => h.imp id (fun h => HOw.out.trans h))), rfl⟩
                clear he
                go_wp2_with fail
                go_ret
                exact HP.out
          · have hd : needs.drop j = [] := List.drop_eq_nil_of_le (by omega)
            have hr4 := HR3.out
            rw [hno.out, hd, reduceL] at hr4
            simp only [Option.some.injEq, Prod.mk.injEq] at hr4
            obtain ⟨rfl, rfl, rfl⟩ := hr4
            have HP : Hid (RedPost bl bo (.slice Au U.length cu) W 0 (V.map Prod.fst) lj (.returned (.int .i64 0)) wy) :=
              ⟨oj, V, hgj, rfl, hnlj, hoj.imp (fun h => h.trans HOw.out.symm) (fun h b hb => by have := h b hb; have := HS3.out.1; omega), hblj, (HK3.out.mono (fun _ _ h => .inl h)).trans hkr (fun i _ h => h.imp id (fun h => h.imp id (fun h => HOw.out.trans h))), rfl⟩
            have hjl : ¬ (j : Int) < (needs.length : Int) := by omega
            clear hd hno hgj hnlj hoj hblj hkr hS
            go_wp2_with fail
            go_ret
            exact HP.out
      · have hr := HR2.out
        rw [hin] at hr
        simp only [Option.some.injEq, Prod.mk.injEq] at hr
        obtain ⟨rfl, rfl, rfl⟩ := hr
        have HP : Hid (RedPost bl bo (.slice Au U.length cu) W 11 (U.map Prod.fst) (left - 1) (.returned (.int .i64 11)) w3') :=
          ⟨_, U, Gat.keeps (bl := bl) HGat.out hk3 (fun h => h) (fun _ _ h => h) (fun _ h _ => h.elim), rfl, HNl.out, .inl rfl, HBl.out.keeps hk3 (fun h => h), (HKW.out.trans hk3 (fun _ _ h => h.elim)).mono (fun _ _ h => .inl h), rfl⟩
        clear hk3 hin w0 w1 w2 w3 w4 l1
        go_wp2_with fail
        go_ret
        exact HP.out
theorem reduce_any (insts : List InstSig) (hok : InstOk insts) : ∀ q, RedAt insts q
  | 0 => fun W F G vi A c p depth left bo bl ov U e out' left' _ _ _ _ _ _ _ _ _ _ _ _ _ h => by cases h
  | q + 1 => reduce_step insts hok q (reduce_any insts hok q)
end Go.Proofs.YtdljlpogljjldaaDoor
