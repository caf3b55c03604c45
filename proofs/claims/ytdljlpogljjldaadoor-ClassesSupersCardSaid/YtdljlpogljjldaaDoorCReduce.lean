/- classes.Reduce. -/
import Derived.Test.YtdljlpogljjldaaDoorCRed
namespace Go.Proofs.YtdljlpogljjldaaDoor
open Go.RowKit Go.Shelf Go.Sort

theorem reducesP_step (insts : List InstSig) (q : Nat) (preds : List Pred) (j : Nat) (h : j < preds.length) (out : List Pred) (left : Int) : reducesP insts q (preds.drop j) out left = if (chk preds[j].ty 4096 false 1).1 ≠ 0 then some ((chk preds[j].ty 4096 false 1).1, []) else match reduceP insts q preds[j] 1 out left with
    | none => none
    | some (e, out', left') => if e ≠ 0 then some (e, []) else reducesP insts q (preds.drop (j + 1)) out' left' := by
  rw [List.drop_eq_getElem_cons h, reducesP]
  rfl
/-- What Reduce leaves and answers. -/
def ReduceRet (e : Int) (out : List Pred) (W : World) (E : Ending) (w' : World) : Prop := Keeps (fun _ => False) W w' ∧ ∃ u, E = .returned (.tuple #[u, .int .i64 e]) ∧ Sl w' (fun b => b < w'.heap.size) Pred.d out u
theorem gat_sl {w : World} {bl bo : Nat} {ov : Value} {U : List (Pred × Value)} (h : Gat w bo ov U (SafeR w bl bo ov)) : Sl w (fun b => b < w.heap.size) Pred.d (U.map Prod.fst) ov := by
  obtain ⟨Au, cu, rfl⟩ := own_slform h.own
  have h1 := pr_rp (w := w) (F := SafeR w bl bo (.slice Au U.length cu)) h.each
  have h2 : U.length = (U.map Prod.fst).length := by simp
  have h3 := h.own
  rw [h2] at h3 h1 ⊢
  exact Sl.of_own h3 rfl h1 (fun b hb => by have := hb.1; simpa using this) (fun b hb => (h3.lt b hb).2)
set_option maxRecDepth 100000 in
set_option maxHeartbeats 16000000 in
theorem Reduce_any (l : List ClassSig) (s : List InstSig) (preds : List Pred) (hfit : Fits s) (vl vi vp : Value) (F : Nat → Prop) (W : World) (hvl : Sl W F ClassSig.d l vl) (hvi : Sl W F InstSig.d s vi) (hvp : Sl W F Pred.d preds vp) (hF : ∀ b, F b → b < W.heap.size) (hz : Szs W)
    (e : Int) (out : List Pred) (hr : reduceS l s preds 402 = some (e, out)) :
    Calls Tryd.prog 18 #[vl, vi, vp] W (ReduceRet e out W) := by
  obtain ⟨Ap, cp, rfl, hpc, hpm, _⟩ := hvp.form
  have hp63 : preds.length ≤ 9223372036854775807 := by unfold maxLen at hpm; omega
  have HVl := Lib.hid hvl
  have HVi := Lib.hid hvi
  have HVp := Lib.hid hvp
  have HZ := Lib.hid hz
  have HIns := Lib.hid (instances_any l s vl vi F W hvl hvi hF hz)
  have HF := Lib.hid hF
  have HFit := Lib.hid hfit
  rw [reduceS] at hr
  have HR := Lib.hid hr
  obtain ⟨ic, hic⟩ : ∃ ic, instC l s = ic := ⟨_, rfl⟩
  rw [hic] at HIns HR
  have HIC := Lib.hid hic
  clear hvl hvi hvp hz hF hfit hr hic
  go_enter Tryd.func18, Tryd.ntmps18
  go_wp2_with fail
  with_reducible refine HIns.out.mono ?_
  rintro e' w1 ⟨rfl, hk1⟩
  have HK1 := Lib.hid hk1
  clear hk1 HIns
  by_cases h1 : ic = 0
  · have h1b : (ic != 0) = false := by rw [h1]; rfl
    have HR1 := Lib.hid ((if_neg (fun h => h h1)).symm.trans HR.out)
    have HIC0 := Lib.hid (HIC.out.trans h1)
    obtain ⟨bo, hbo⟩ : ∃ bo, w1.heap.size = bo := ⟨_, rfl⟩
    obtain ⟨W4, hW4⟩ : ∃ W4, w1.alloc (.cells #[.slice none 0 0] 36) = W4 := ⟨_, rfl⟩
    have hk4 : Keeps (fun _ => False) w1 W4 := by rw [← hW4]; exact (Keeps.refl _ _).alloc _
    have hB4 : Blk W4 bo 36 [.slice none 0 0] := by rw [← hW4, ← hbo]; exact Blk.new w1 _ [_]
    have hz4 : W4.heap.size = bo + 1 := by rw [← hW4, ← hbo]; simp
    obtain ⟨W5, hW5⟩ : ∃ W5, W4.alloc (.cells #[.int .i64 4096] 3) = W5 := ⟨_, rfl⟩
    have hk5 : Keeps (fun _ => False) W4 W5 := by rw [← hW5]; exact (Keeps.refl _ _).alloc _
    have hB5 : Blk W5 (bo + 1) 3 [.int .i64 4096] := by rw [← hW5, ← hz4]; exact Blk.new W4 _ [_]
    have hz5 : W5.heap.size = bo + 2 := by rw [← hW5]; simp [hz4]
    have hkW := (HK1.out.trans hk4 (fun _ _ h => h)).trans hk5 (fun _ _ h => h)
    have hsz1 := HK1.out.size
    have HGat : Hid (Gat W5 bo (.slice none 0 0) [] (SafeR W5 (bo + 1) bo (.slice none 0 0))) := ⟨hB4.keeps hk5 (fun h => h), World.ownsRow_nil _ _ _ _, (fun u hu => by cases hu), fun h => by cases h⟩
    have HB5 := Lib.hid hB5
    have HVi5 := Lib.hid (HVi.out.keeps hkW (fun _ _ h => h))
    have HVp5 := Lib.hid (HVp.out.keeps hkW (fun _ _ h => h))
    have HZ5 := Lib.hid (HZ.out.keeps hkW (fun h => h))
    have hzc := block_lt_of_cell HZ.out.c0
    dsimp at hzc
    have HZ0 : Hid (0 < bo) := by show 0 < bo; omega
    have HF5 : Hid (∀ b, F b → b < bo) := fun b hb => by have := HF.out b hb; show b < bo; omega
    have HKW := Lib.hid hkW
    have HWB : Hid (W.heap.size ≤ bo) := by show _ ≤ _; omega
    have HZ5s := Lib.hid hz5
    have HW4 := Lib.hid hW4
    have HW5 := Lib.hid hW5
    have HBo := Lib.hid hbo
    have HZ4 := Lib.hid hz4
    clear h1 HR hk4 hB4 hz4 hk5 hB5 hz5 hkW hsz1 hzc hW4 hW5 hbo
    go_upto_region 5 with (fail)
    rw [HW4.out, HBo.out]
    go_upto_region 6 with (fail)
    rw [HW5.out, HZ4.out]
    go_wp2_with fail
    go_loopw [23] (fun i wr => ∃ (j : Nat) (oj : Value) (V : List (Pred × Value)) (lj : Int), j ≤ preds.length ∧ .int .i64 (j : Int) = i ∧ Gat wr bo oj V (SafeR wr (bo + 1) bo oj) ∧ (∀ b, oj.ownBlock = some b → bo + 2 ≤ b) ∧ Blk wr (bo + 1) 3 [.int .i64 lj] ∧ Keeps (fun i => bo ≤ i) W5 wr ∧ 0 ≤ lj ∧ (V.length : Int) + lj ≤ 4096 ∧ Hid (reducesP s 402 preds [] 4096 = reducesP s 402 (preds.drop j) (V.map Prod.fst) lj)) (fun i _ => preds.length - (intOf i).toNat)
    case atStart => exact ⟨0, _, [], 4096, Nat.zero_le _, rfl, HGat.out, (fun b h => by cases h), HB5.out, Keeps.refl _ _, by decide, by decide, rfl⟩
    case round =>
      clear HGat HB5
      obtain ⟨j, oj, V, lj, hj, rfl, hgj, hoj, hblj, hkr, hlj0, hlj1, hno⟩ := hrel
      obtain ⟨wx, hwx⟩ : ∃ wx, wx = wr := ⟨_, rfl⟩
      rw [← hwx] at hgj hblj hkr ⊢
      clear hwx
      have hsx := hkr.size
      have hz5 := HZ5s.out
      have hFn : ∀ b, F b → ¬ bo ≤ b := fun b hb h => by have := HF5.out b hb; omega
      by_cases hlt : j < preds.length
      · have hst := reducesP_step s 402 preds j hlt (V.map Prod.fst) lj
        obtain ⟨g, off, v1, hadr, hg, c0, c1, c2, c3, c4, hcs, hTh⟩ := Pred.get (HVp5.out.keeps hkr hFn) hlt
        obtain rfl := hadr
        obtain ⟨A1, q1, rfl, _⟩ := hTh.form
        obtain ⟨h, hh⟩ : ∃ h, preds[j] = h := ⟨_, rfl⟩
        rw [hh] at hst c0 c1 c2 c3 c4 hcs hTh
        obtain ⟨b12, hb12⟩ : ∃ b12, wx.heap.size = b12 := ⟨_, rfl⟩
        obtain ⟨W12, hW12⟩ : ∃ W12, wx.alloc (.cells #[.string h.cls, .int .i64 h.ty.kind, .string h.ty.name, .int .i64 h.ty.var, .slice A1 h.ty.args.length q1] 35) = W12 := ⟨_, rfl⟩
        have hk12 : Keeps (fun _ => False) wx W12 := by rw [← hW12]; exact (Keeps.refl _ _).alloc _
        have hB12 : Blk W12 b12 35 [.string h.cls, .int .i64 h.ty.kind, .string h.ty.name, .int .i64 h.ty.var, .slice A1 h.ty.args.length q1] := by rw [← hW12, ← hb12]; exact Blk.new wx _ [_, _, _, _, _]
        have hs12 := hk12.size
        obtain ⟨ce, hce⟩ : ∃ ce, (chk h.ty 4096 false 1).1 = ce := ⟨_, rfl⟩
        have HCk : Hid (Calls Tryd.prog 11 #[.agg #[.int .i64 h.ty.kind, .string h.ty.name, .int .i64 h.ty.var, .slice A1 h.ty.args.length q1]] W12 (fun e w' => e = .returned (.int .i64 ce) ∧ Keeps (fun _ => False) W12 w')) := by
          have hx := check_any h.ty W12 (fun b => b < W12.heap.size) _ ((hTh.keeps hk12 (fun _ _ h => h)).mono (fun b hb => by have := HF5.out b hb; omega)) (fun _ h => h) ((HZ5.out.keeps hkr (by have := HZ0.out; omega)).keeps hk12 (fun h => h))
          unfold tyV at hx
          refine hx.mono ?_
          rintro e w' ⟨he, hb⟩
          exact ⟨by rw [he, hce], Keeps.of_below (X := fun _ => False) hb⟩
        have d1 := hB12.cell (i := 1) rfl
        have d2 := hB12.cell (i := 2) rfl
        have d3 := hB12.cell (i := 3) rfl
        have d4 := hB12.cell (i := 4) rfl
        have hl12 := hB12.lt
        have hr4 := HR1.out
        rw [hno.out, hst, hce] at hr4
        rw [hce] at hst
        have HNO := Lib.hid (hno.out.trans hst)
        have HR4 := Lib.hid hr4
        have HB12 := Lib.hid hB12
        have HK12 := Lib.hid hk12
        have HW12 := Lib.hid hW12
        have HBn12 := Lib.hid hb12
        have HTh := Lib.hid (hTh.keeps hk12 (fun _ _ h => h))
        have HGj := Lib.hid (Gat.keeps (bl := bo + 1) hgj hk12 (fun h => h) (fun _ _ h => h) (fun _ h _ => h.elim))
        have HOj := Lib.hid hoj
        have HBlj := Lib.hid (hblj.keeps hk12 (fun h => h))
        have HKr := Lib.hid (hkr.trans hk12 (fun _ _ h => h.elim))
        have HL1 := Lib.hid hlj1
        have HCs := Lib.hid hcs
        have HS12 : Hid (W5.heap.size ≤ W12.heap.size) := by show _ ≤ _; omega
        have hjl : (j : Int) < (preds.length : Int) := by omega
        have hj0 : (0 : Int) ≤ (j : Int) := by omega
        clear hst hno hkr hh hTh hB12 hk12 hW12 hb12 hcs hgj hoj hblj hlj1 hsx hs12 hFn hr4 hz5
        go_upto_region 9 with (fail)
        rw [HW12.out, HBn12.out]
        go_wp2_with fail
        with_reducible refine HCk.out.mono ?_
        rintro e' w8 ⟨rfl, hk8⟩
        have HK8 := Lib.hid hk8
        have hB8 := HB12.out.keeps hk8 (fun h => h)
        clear d1 d2 d3 d4 hk8 hl12
        have d0 := hB8.cell (i := 0) rfl
        have d1 := hB8.cell (i := 1) rfl
        have d2 := hB8.cell (i := 2) rfl
        have d3 := hB8.cell (i := 3) rfl
        have d4 := hB8.cell (i := 4) rfl
        have hl12 := hB8.lt
        clear hB8
        by_cases h3 : ce = 0
        · have h3b : (ce != 0) = false := by rw [h3]; rfl
          have hr5 := HR4.out
          rw [if_neg (fun hh => hh h3)] at hr5
          cases hc : reduceP s 402 h 1 (V.map Prod.fst) lj with
          | none => rw [hc] at hr5; cases hr5
          | some res =>
            obtain ⟨en, on, ln⟩ := res
            rw [hc] at hr5
            dsimp only at hr5
            have hno2 := HNO.out
            rw [if_neg (fun hh => hh h3), hc] at hno2
            dsimp only at hno2
            have hlen := reduceP_len s 402 h 1 lj _ on en ln hlj0 hc
            have hs8 := HK8.out.size
            have hs12 := HS12.out
            have hz5 := HZ5s.out
            have hkr8 := HKr.out.trans HK8.out (fun _ _ h => h.elim)
            have hFn : ∀ b, F b → ¬ bo ≤ b := fun b hb h => by have := HF5.out b hb; omega
            have hsafe : ∀ b, F b → SafeR w8 (bo + 1) bo oj b := fun b hb => by
              have h1 := HF5.out b hb
              exact ⟨by omega, by omega, by omega, fun hx => by have := HOj.out b hx; omega⟩
            have HC := Lib.hid (reduce_any s (instOk_of HIC0.out HFit.out) 402 w8 F F vi A1 q1 h 1 lj bo (bo + 1) oj V en on ln (HVi5.out.keeps hkr8 hFn) hsafe (HTh.out.keeps HK8.out (fun _ _ h => h)) hsafe HCs.out
              (Gat.keeps (bl := bo + 1) HGj.out HK8.out (fun h => h) (fun _ _ h => h) (fun _ h _ => h.elim)) (by omega) (fun hx => by have := HOj.out _ hx; omega) (HBlj.out.keeps HK8.out (fun h => h)) hlj0 HL1.out (by decide) (by decide) hc)
            have HR5 := Lib.hid hr5
            have HNO2 := Lib.hid hno2
            have HLen := Lib.hid hlen
            have HKr8 := Lib.hid hkr8
            have HS8 : Hid (bo + 2 ≤ w8.heap.size) := by show _ ≤ _; omega
            clear hr5 hno2 hlen hc h3 hs8 hs12 hz5 hkr8 hFn hsafe
            go_wp2_with fail
            with_reducible refine HC.out.mono ?_
            rintro e' w6 ⟨oj', V', hg6, hm6, hnl6, ho6, hbl6, hk6, rfl⟩
            have HO6 : Hid (∀ b, oj'.ownBlock = some b → bo + 2 ≤ b) := fun b hb => by
              rcases ho6 with h | h
              · exact HOj.out b (h ▸ hb)
              · have := h b hb; have := HS8.out; omega
            have HK6 : Hid (Keeps (fun i => bo ≤ i) W5 w6) := HKr8.out.trans hk6 (fun i _ h => by
              show bo ≤ i
              rcases h with h | h | h
              · omega
              · omega
              · have := HOj.out i h; omega)
            have hvl : V'.length = on.length := by rw [← hm6]; simp
            have HG6 := Lib.hid hg6
            have HM6 := Lib.hid hm6
            have HB6l := Lib.hid hbl6
            have HVL := Lib.hid hvl
            clear hg6 hm6 hnl6 ho6 hbl6 hk6 d0 d1 d2 d3 d4 hvl hl12
            by_cases he : en = 0
            · have heb : (en != 0) = false := by rw [he]; rfl
              have HNX : Hid (reducesP s 402 preds [] 4096 = reducesP s 402 (preds.drop (j + 1)) (V'.map Prod.fst) ln) := HNO2.out.trans (by rw [if_neg (fun h => h he), HM6.out])
              have hln := HLen.out.2.2.1 he
              clear he
              go_wp2_with fail
              go_roundw
              case rel => exact ⟨j + 1, oj', V', ln, by omega, by go_num, HG6.out, HO6.out, HB6l.out, HK6.out, hln, by have h1 := HVL.out; have h2 := HLen.out.2.2.2.1; have h3 := HL1.out; simp only [List.length_map] at h2; omega, HNX.out⟩
              case measure => simp [intOf]; omega
            · have heb : (en != 0) = true := by rw [bne_iff_ne]; exact he
              have hr5 := HR5.out
              rw [if_pos he] at hr5
              simp only [Option.some.injEq, Prod.mk.injEq] at hr5
              obtain ⟨rfl, rfl⟩ := hr5
              have HP : Hid (ReduceRet en [] W (.returned (.tuple #[.slice none 0 0, .int .i64 en])) w6) :=
                ⟨Keeps.of_below (X := fun _ => False) (((HKW.out.mono (Y := fun i => bo ≤ i) (fun _ _ h => h.elim)).trans HK6.out (fun _ _ h => h)).below (fun i hi => by have h2 : bo ≤ i := hi; have := HWB.out; omega) (Nat.le_refl _)), _, rfl, Sl.nil_⟩
              clear he
              go_wp2_with fail
              go_ret2
              exact HP.out
        · have h3b : (ce != 0) = true := by rw [bne_iff_ne]; exact h3
          have hr5 := HR4.out
          rw [if_pos h3] at hr5
          simp only [Option.some.injEq, Prod.mk.injEq] at hr5
          obtain ⟨rfl, rfl⟩ := hr5
          have HP : Hid (ReduceRet ce [] W (.returned (.tuple #[.slice none 0 0, .int .i64 ce])) w8) :=
            ⟨Keeps.of_below (X := fun _ => False) (((HKW.out.mono (Y := fun i => bo ≤ i) (fun _ _ h => h.elim)).trans (HKr.out.trans HK8.out (fun _ _ h => h.elim)) (fun _ _ h => h)).below (fun i hi => by have h2 : bo ≤ i := hi; have := HWB.out; omega) (Nat.le_refl _)), _, rfl, Sl.nil_⟩
          clear h3
          go_wp2_with fail
          go_ret2
          exact HP.out
      · have hd : preds.drop j = [] := List.drop_eq_nil_of_le (by omega)
        have hr4 := HR1.out
        rw [hno.out, hd, reducesP] at hr4
        simp only [Option.some.injEq, Prod.mk.injEq] at hr4
        obtain ⟨rfl, rfl⟩ := hr4
        have HP : Hid (ReduceRet 0 (V.map Prod.fst) W (.returned (.tuple #[oj, .int .i64 0])) wx) :=
          ⟨Keeps.of_below (X := fun _ => False) (((HKW.out.mono (Y := fun i => bo ≤ i) (fun _ _ h => h.elim)).trans hkr (fun _ _ h => h)).below (fun i hi => by have h2 : bo ≤ i := hi; have := HWB.out; omega) (Nat.le_refl _)), _, rfl, gat_sl hgj⟩
        have o0 := hgj.box.cell (i := 0) rfl
        have hjl : ¬ (j : Int) < (preds.length : Int) := by omega
        obtain ⟨Aj, cj, rfl⟩ := own_slform hgj.own
        clear hd hno hgj hoj hblj hkr hFn hsx hz5
        go_wp2_with fail
        go_ret2
        exact HP.out
  · have h1b : (ic != 0) = true := by rw [bne_iff_ne]; exact h1
    have hr := HR.out
    rw [if_pos h1] at hr
    simp only [Option.some.injEq, Prod.mk.injEq] at hr
    obtain ⟨rfl, rfl⟩ := hr
    have HP : Hid (ReduceRet ic [] W (.returned (.tuple #[.slice none 0 0, .int .i64 ic])) w1) := ⟨HK1.out, _, rfl, Sl.nil_⟩
    clear h1
    go_wp2_with fail
    go_ret2
    exact HP.out
end Go.Proofs.YtdljlpogljjldaaDoor
