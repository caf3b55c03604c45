/- LexerLines: for all texts the law returns true: the tokens of two texts with a line feed between them are those of both. No conditions. -/
import Derived.Test.YtdpkemihmhchcaaDoorTokSl
import Derived.Deep.RegionHeld3
import Derived.Test.YtdpkemihmhchcaaDoorHanded
namespace Go.Proofs.YtdpkemihmhchcaaDoor.lexerLines
open Go.ChangeShapes Go.WideShapes Go.ChangeAt Go.RowKit Go.Shelf
open Go.ChangeMaps (open_string)

theorem own : ownKnob Tryd.prog.godebug = none := by kernel_rfl

set_option maxRecDepth 100000 in
set_option maxHeartbeats 4000000 in
theorem walk (s t : ByteArray) (w : World) (m : Int) (hL : Lim w w.heap.size m) (zs : s.size ≤ 140737488351232) (zt : t.size ≤ 140737488351232) :
    Calls Tryd.prog 4 #[.string s, .string t] w fun e w' => e = .returned (.bool true) ∧ Below w.heap.size w w' := by
  have H0 := Lib.hid (scan_any ⟨#[97, 10, 98]⟩ w m hL)
  have HS := Lib.hid (fun (W : World) (hb : Below w.heap.size w W) => scan_any s W m (hL.here hb (Nat.le_refl _)))
  have HT := Lib.hid (fun (W : World) (hb : Below w.heap.size w W) => scan_any t W m (hL.here hb (Nat.le_refl _)))
  have HU := Lib.hid (fun (W : World) (hb : Below w.heap.size w W) => (show Calls Tryd.prog 6 #[.string (s ++ ⟨#[10]⟩ ++ t)] W (Scanned (joined s t) W) from scan_any (joined s t) W m (hL.here hb (Nat.le_refl _))))
  have z1 : (s.size : Int) ≤ 140737488351232 := by omega
  have z2 : (t.size : Int) ≤ 140737488351232 := by omega
  go_enter Tryd.func4, Tryd.ntmps4
  go_wp2_with fail
  with_reducible refine H0.out.mono ?_
  rintro e W1 ⟨hb1, ⟨v1, v2, c0, _, _, hx⟩ | ⟨_, _, v0, rfl, hown0⟩⟩
  · exfalso
    rcases hx with h | h
    · exact h (by decide +kernel)
    · exact absurd h (by decide +kernel)
  have hn3 : ((lexS ⟨#[97, 10, 98]⟩).1.map Tk.tok).length = 3 := by decide +kernel
  rw [hn3] at hown0
  obtain ⟨A0, cc0, rfl, _, _⟩ := own_form hown0
  clear hown0 hn3
  have HS1 := Lib.hid (HS.out W1 hb1)
  go_wp2_with fail
  with_reducible refine HS1.out.mono ?_
  rintro e W2 ⟨hb2, hcs⟩
  have hbw2 := hb1.trans (hb2.mono hb1.size)
  have HT2 := Lib.hid (HT.out W2 hbw2)
  rcases hcs with ⟨v1, v2, c1, hc1, rfl, _⟩ | ⟨hos, hls, va, rfl, howna⟩
  · have hne : (c1 != 0) = true := bne_iff_ne.2 hc1
    go_wp2_with fail
    with_reducible refine HT2.out.mono ?_
    rintro e W3 ⟨hb3, hct⟩
    have hbw3 := hbw2.trans (hb3.mono hbw2.size)
    rcases hct with ⟨v3, v4, c2, hc2, rfl, _⟩ | ⟨_, _, vb, rfl, _⟩
    · go_wp2_with fail
      go_ret
      exact ⟨rfl, hbw3⟩
    · go_wp2_with fail
      go_ret
      exact ⟨rfl, hbw3⟩
  · go_wp2_with fail
    with_reducible refine HT2.out.mono ?_
    rintro e W3 ⟨hb3, hct⟩
    have hbw3 := hbw2.trans (hb3.mono hbw2.size)
    rcases hct with ⟨v3, v4, c2, hc2, rfl, _⟩ | ⟨hot, hlt, vb, rfl, hownb⟩
    · have hne : (c2 != 0) = true := bne_iff_ne.2 hc2
      go_wp2_with fail
      go_ret
      exact ⟨rfl, hbw3⟩
    · by_cases hbig : 8192 ≤ s.size + t.size
      · have i0 : (8192 : Int) ≤ (s.size : Int) + (t.size : Int) := by omega
        go_wp2_with fail
        go_ret
        exact ⟨rfl, hbw3⟩
      · have i0 : ¬ (8192 : Int) ≤ (s.size : Int) + (t.size : Int) := by omega
        have i1 : (s.size : Int) + (t.size : Int) < 8192 := by omega
        have HU3 := Lib.hid (HU.out W3 hbw3)
        go_wp2_with fail
        with_reducible refine HU3.out.mono ?_
        rintro e W4 ⟨hb4, hcu⟩
        have hbw4 := hbw3.trans (hb4.mono hbw3.size)
        have hjl := joined_lex s t
        rw [hls, hlt] at hjl
        have hjc := joined_chk hos hot (by omega)
        rcases hcu with ⟨v1, v2, c1, _, _, hx⟩ | ⟨_, _, vc, rfl, hownc⟩
        · exfalso
          rcases hx with h | h
          · exact h hjc
          · rw [hjl] at h; cases h
        obtain ⟨n, hn1, hn2⟩ := lexS_length s
        obtain ⟨nb, hnb1, hnb2⟩ := lexS_length t
        obtain ⟨d, hd⟩ : ∃ d : Int, ((s.data.toList.count 10 : Nat) : Int) + 1 = d := ⟨_, rfl⟩
        have hd8 : 1 ≤ d ∧ d ≤ 8193 := by
          have := List.count_le_length (a := (10 : UInt8)) (l := s.data.toList); rw [← Lib.size_eq] at this; omega
        rw [hjl, hd] at hownc
        dsimp only at hownc
        rw [List.map_append, down_tok, List.map_dropLast] at hownc
        have hokA := lexS_ok s (by omega)
        have hokB := lexS_ok t (by omega)
        have hlnB := line_ok t (by omega)
        obtain ⟨LA, hLA⟩ : ∃ LA, (lexS s).1.map Tk.tok = LA := ⟨_, rfl⟩
        obtain ⟨LB', hLB⟩ : ∃ LB', (lexS t).1.map Tk.tok = LB' := ⟨_, rfl⟩
        have hAl : LA.length = n + 1 := by rw [← hLA, List.length_map, hn1]
        have hBl : LB'.length = nb + 1 := by rw [← hLB, List.length_map, hnb1]
        rw [hLA] at howna hownc hokA
        rw [hLB] at hownb hownc hokB hlnB
        have hCl : (LA.dropLast ++ LB'.map (Tok.down d)).length = n + (nb + 1) := by rw [List.length_append, List.length_dropLast, List.length_map, hAl, hBl]; omega
        have HCt := Lib.hid (fun (W : World) => (Tryd.strings_Count_one s 10 W).mono (R' := fun e w' => e = .returned (.int .i64 (d - 1)) ∧ W = w') fun e w' ⟨he, hw⟩ => ⟨by rw [he]; show Ending.returned (.int .i64 ((s.data.toList.count 10 : Nat) : Int)) = _; rw [show ((s.data.toList.count 10 : Nat) : Int) = d - 1 by omega], hw.symm⟩)
        clear hjl hjc hd hLA hLB hn1 hnb1 HU3 HU HS HT HT2 HS1 H0 hos hls hot hlt
        rw [hAl] at howna
        rw [hBl] at hownb
        rw [hCl] at hownc
        obtain ⟨Aa, ca, rfl, _, _⟩ := own_form howna
        obtain ⟨Ab, cb, rfl, _, _⟩ := own_form hownb
        obtain ⟨Ac, cc, rfl, _, _⟩ := own_form hownc
        have f1 : (n : Int) ≤ 8192 := by omega
        have f2 : (nb : Int) ≤ 8192 := by omega
        have f3 : (0 : Int) ≤ (n : Int) := by omega
        have f4 : (0 : Int) ≤ (nb : Int) := by omega
        have f5 : (((n : Int) + ((nb : Int) + 1)) != ((n : Int) + 1 + ((nb : Int) + 1) - 1)) = false := by rw [bne_eq_false_iff_eq]; omega
        have f6 : d ≤ 8193 := hd8.2
        have f7 : 1 ≤ d := hd8.1
        go_wp2_with fail
        with_reducible refine (HCt.out _).mono ?_
        rintro e W5 ⟨rfl, rfl⟩
        go_wp2_with fail
        have hownb4 := own_keeps (X := fun _ => False) hownb (Keeps.of_below hb4) (fun _ _ h => h)
        have hkab := Keeps.of_below (X := fun _ => False) hb3
        have hkab4 := Keeps.of_below (X := fun _ => False) hb4
        have howna4 := own_keeps (own_keeps howna hkab (fun _ _ h => h)) hkab4 (fun _ _ h => h)
        have hsz23 := hb3.size
        go_loopw [83] (fun i wr => ∃ k : Nat, k ≤ nb + 1 ∧ i = .int .i64 k ∧ wr.ownsRow W2.heap.size 32 5 (.slice Ab (nb + 1) cb) (nb + 1) ((part (Tok.down d) LB' k).flatMap Tok.cells) ∧ Keeps (fun j => (Value.slice Ab (nb + 1) cb).ownBlock = some j) W4 wr) (fun i _ => nb + 1 - (intOf i).toNat)
        case atStart => exact ⟨0, Nat.zero_le _, rfl, by rw [part_zero]; exact hownb4, Keeps.refl _ _⟩
        case round =>
          obtain ⟨k, hk, rfl, hown0, hkp⟩ := hrel
          by_cases hlk : k < nb + 1
          · obtain ⟨g, cap, hA, hgb, hgl⟩ := hown0.form (by omega)
            simp only [Value.slice.injEq, true_and] at hA
            obtain ⟨rfl, rfl⟩ := hA
            have hkl : k < LB'.length := by omega
            have hsk := part_get (Tok.down d) LB' k k hkl
            rw [if_neg (by omega)] at hsk
            have y0 := flat_get (c := Tok.cells) (kk := 5) (fun _ => rfl) _ k _ hsk 3 (by omega)
            have j0 := (hown0.cellAt (k * 5 + 3) (by omega)).trans y0
            have j1 : wr.cell? ⟨g, k * 5 + 3, none⟩ = some (.int .i64 LB'[k].line) := j0
            have m0 := hown0.frozenAt (k * 5 + 3)
            have k0 : (0 : Int) ≤ (k : Int) := by omega
            have k1 : (k : Int) < (nb : Int) + 1 := by omega
            have hli := hlnB LB'[k] (List.getElem_mem hkl)
            have l0 : (0 : Int) ≤ LB'[k].line + d := by omega
            have l1 : LB'[k].line + d ≤ 20000 := by omega
            have hst := (hown0.stored (k * 5 + 3) (.int .i64 (LB'[k].line + d))).1
            have hfs := flat_set (c := Tok.cells) (kk := 5) (fun _ => rfl) _ k _ (Tok.down d LB'[k]) hsk 3 (.int .i64 (LB'[k].line + d)) (by omega) rfl
            rw [← part_succ (Tok.down d) LB' k hkl] at hfs
            rw [hfs] at hst
            have HST := Lib.hid hst
            obtain ⟨q, hq⟩ : ∃ q, LB'[k].line = q := ⟨_, rfl⟩
            rw [hq] at j1 l0 l1 HST
            clear hsk hst hfs j0 y0 hli hq
            go_wp2_with fail
            go_roundw
            case rel => exact ⟨k + 1, by omega, by go_num, HST.out, hkp.setCell (p := ⟨g, k * 5 + 3, none⟩) (fun _ => rfl) _⟩
            case measure => simp [intOf]; omega
          · obtain rfl : k = nb + 1 := by omega
            have k1 : ¬ (((nb + 1 : Nat) : Int) < (nb : Int) + 1) := by omega
            rw [part_all (Tok.down d) LB' _ (by omega)] at hown0
            have hownA := own_keeps howna4 hkp (fun i hi hj => by
              have h1 := (howna.lt i hi).2
              have h2 := (hownb.lt i hj).1
              omega)
            have hownC := own_keeps hownc hkp (fun i hi hj => by
              have h1 := (hownc.lt i hi).1
              have h2 := (hownb.lt i hj).2
              omega)
            obtain ⟨gc, ccc, hA, _, _⟩ := hownC.form (by omega)
            simp only [Value.slice.injEq, true_and] at hA
            obtain ⟨rfl, rfl⟩ := hA
            have hccl : n + (nb + 1) ≤ cc := by
              obtain ⟨_, c2, h1, h2, _⟩ := own_form hownC
              simp only [Value.slice.injEq, true_and] at h1
              rw [h1.2]; exact h2
            have hokC : ∀ x ∈ LA.dropLast ++ LB'.map (Tok.down d), TokOk x := fun x hx => by
              rcases List.mem_append.1 hx with hx | hx
              · exact hokA x (List.dropLast_subset _ hx)
              · obtain ⟨y, hy, rfl⟩ := List.mem_map.1 hx
                obtain ⟨q1, q2, q3, q4, q5⟩ := hokB y hy
                have hl := hlnB y hy
                exact ⟨q1, q2, q3, wf_small (n := y.line + d) (by omega) (by omega), q5⟩
            have sA := own_sl (l := LA) (by rw [hAl]; exact hownA) hokA
            have sC := own_sl (l := LA.dropLast ++ LB'.map (Tok.down d)) (by rw [hCl]; exact hownC) hokC
            have sB := own_sl (l := LB'.map (Tok.down d)) (by rw [List.length_map, hBl]; exact hown0) (fun x hx => hokC x (List.mem_append_right _ hx))
            have sA1 := sA.take (i := n) (by omega)
            have sC1 := sC.take (i := n) (by omega)
            have sC2 := sC.drop Tok.wide (i := n) (by omega)
            have eA : LA.take n = LA.dropLast := by rw [List.dropLast_eq_take, hAl, Nat.add_sub_cancel]
            have hdl : LA.dropLast.length = n := by rw [List.length_dropLast, hAl, Nat.add_sub_cancel]
            have eC : (LA.dropLast ++ LB'.map (Tok.down d)).take n = LA.dropLast := List.take_left' hdl
            have eC2 : (LA.dropLast ++ LB'.map (Tok.down d)).drop n = LB'.map (Tok.down d) := List.drop_left' hdl
            rw [eA] at sA1
            rw [eC] at sC1
            rw [eC2, if_neg (by omega), show n + (nb + 1) - n = nb + 1 by omega] at sC2
            simp only [Option.map_some, Go.WideShapes.add_plain, Nat.zero_add] at sC2
            have HE1 := Lib.hid (fun (X : World) (hk : Keeps (fun _ => False) wr X) => (tokEqual _ _ _ _ _ _ X (sC1.keeps hk (fun _ _ h => h)) (sA1.keeps hk (fun _ _ h => h))).mono (R' := fun e w' => e = .returned (.bool true) ∧ Keeps (fun _ => False) wr w') fun e w' ⟨he, hb⟩ => ⟨by rw [he, eqBy_refl _ Tok.eqB_refl], hk.trans (X := fun _ => False) (Keeps.of_below (X := fun _ => False) hb) (fun _ _ h => h)⟩)
            have HE2 := Lib.hid (fun (X : World) (hk : Keeps (fun _ => False) wr X) => (tokEqual _ _ _ _ _ _ X (sC2.keeps hk (fun _ _ h => h)) (sB.keeps hk (fun _ _ h => h))).mono (R' := fun e w' => e = .returned (.bool true) ∧ Keeps (fun _ => False) wr w') fun e w' ⟨he, hb⟩ => ⟨by rw [he, eqBy_refl _ Tok.eqB_refl], hk.trans (X := fun _ => False) (Keeps.of_below (X := fun _ => False) hb) (fun _ _ h => h)⟩)
            have hbwr : Below w.heap.size w wr := hbw4.trans (hkp.below (fun j hj => by have := (hownb.lt j hj).1; have := hbw2.size; omega) hbw4.size)
            have g1 : (n : Int) ≤ (cc : Int) := by omega
            have g2 : (n : Int) ≤ (ca : Int) := by
              obtain ⟨_, c2, h1, h2, _⟩ := own_form hownA
              simp only [Value.slice.injEq, true_and] at h1
              rw [h1.2]; omega
            have g3 : (n : Int) ≤ (n : Int) + ((nb : Int) + 1) := by omega
            have g6 : ¬ (cc = n) := by omega
            have g4 : IntKind.i64.wrap (n : Int) = (n : Int) := by simp [IntKind.wrap, IntKind.signed, IntKind.bits]; omega
            have g5 : IntKind.i64.wrap ((n : Int) + 1 - 1) = (n : Int) := by rw [show (n : Int) + 1 - 1 = (n : Int) by omega]; exact g4
            clear sA sC sB sA1 sC1 sC2 eA eC eC2 hownA hownC hown0 hokC hdl hAl hBl hCl howna howna4 hownb hownb4 hownc hokA hokB hlnB
            go_wp2_with fail
            go_region_held3 (fun _ => True) (trivial) (first
              | (go_at_call 13; with_reducible refine (HE1.out _ (by repeat (first | assumption | exact Keeps.refl _ _ | refine Keeps.drewN ?_ _ | refine Keeps.drew ?_))).mono ?_; rintro e w7 ⟨rfl, hk7⟩)
              | (go_at_call 13; with_reducible refine (HE2.out _ (by repeat (first | assumption | exact Keeps.refl _ _ | refine Keeps.drewN ?_ _ | refine Keeps.drew ?_))).mono ?_; rintro e w8 ⟨rfl, hk8⟩))
            go_wp2_with fail
            go_ret
            exact ⟨rfl, hbwr.trans (hk8.below (fun _ h => h.elim) hbwr.size)⟩

theorem laid : laidOutB Tryd.prog = true := by kernel_rfl

set_option maxRecDepth 100000 in
theorem lifted (os : Os) (started : os.Started) (H : Type) (enc : TypeId × Value → H) :
    ReturnsInHanded {} Tryd.checked os 4 .any (fun w args => (Rows.lexerLinesSpec.pre enc Tryd.prog Tryd.f4 [] false w args ∧ laidMetH Tryd.prog Rows.lexerLinesRow.laid w) ∧ sizedMet enc Tryd.prog Tryd.f4 (OpenSpec.ofChange Rows.lexerLinesSpec) false w args)
      (Rows.lexerLinesSpec.post enc Tryd.prog Tryd.f4 false true false false) := by
  refine handed_shaped (C := Tryd.checked) (X := fun w _ => laidMetH Tryd.prog Rows.lexerLinesRow.laid w) own started (by kernel_rfl) Tryd.func4
    (ChangeSpec.witness_shaped (enc := enc) (C := Tryd.checked) (os := os) (X := fun w _ => laidMetH Tryd.prog Rows.lexerLinesRow.laid w) false (World.laidAll Tryd.prog os Rows.lexerLinesRow.laid) #[.string ⟨#[]⟩, .string ⟨#[]⟩] 8 (World.laidAll_os _ _ _)
      (World.shaped_of_ZipB (by kernel_rfl) (by kernel_rfl)) (by kernel_rfl) (by kernel_rfl) (by kernel_rfl)
      (by rw [MakeChecks.laidMetH_plain _ _ _ (by kernel_rfl)]; exact laidMet_laidAll _ (by kernel_rfl) (by kernel_rfl))) ?_
  intro W base args ds gs before hval0 hW hsz0 hsh
  have hval : ∀ (j : Nat) t v, Tryd.f4.params[j]? = some t → args[j]? = some v → Value.okWide Tryd.prog W .any base t v := hval0
  have hW' := hW
  obtain ⟨p, q, hA0, hV, hbef, hfz, hnd⟩ := hW
  have hA : DataW.TrodAll enc Tryd.prog W 0 (fun _ => true) true Tryd.f4.params.toList args.toList ds p := hA0
  have hsz : (DataW.weightsEach Tryd.prog (Tryd.f4.params.toList ++ Rows.lexerLinesSpec.plain.varTypes Tryd.prog) (ds ++ gs)).all (· ≤ reachBytes) = true := hsz0
  rw [Tryd.params4] at hA hval hsz
  obtain ⟨m, hm⟩ := Tryd.laysM144.s1_3 W hsh
  have hLim : Lim W W.heap.size m := ⟨hm, World.block_lt_of_cell? _ _ hm⟩
  obtain ⟨v0, vs0, d0, ds0, p0, q0, hargs, hds, rfl, h0, r0⟩ := trodAll_cons hA
  obtain ⟨v1, vs1, d1, ds1, p1, q1, rfl, rfl, rfl, h1, r1⟩ := trodAll_cons r0
  obtain ⟨rfl, rfl, rfl⟩ := trodAll_nil r1
  obtain rfl : args = #[v0, v1] := by cases args; simp_all
  obtain ⟨rfl, _⟩ := trodVars_none hV
  subst hds
  obtain ⟨a0, rfl, rfl, rfl, s0⟩ := open_string Tryd.underlying9 (hval 0 9 v0 rfl rfl) h0
  obtain ⟨a1, rfl, rfl, rfl, s1⟩ := open_string Tryd.underlying9 (hval 1 9 v1 rfl rfl) h1
  have z0 : a0.size ≤ 140737488351232 := by
    have h := sized_string hsz (j := 0) (t := 9) rfl rfl
    rw [Lib.size_eq]; unfold reachBytes at h; exact h
  have z1 : a1.size ≤ 140737488351232 := by
    have h := sized_string hsz (j := 1) (t := 9) rfl rfl
    rw [Lib.size_eq]; unfold reachBytes at h; exact h
  refine (walk a0 a1 W m hLim z0 z1).mono fun e W' ⟨he, hb⟩ => ?_
  subst he
  exact ⟨_, rfl, law_post laid (by kernel_rfl) rfl Tryd.underlying4 rfl rfl rfl rfl hW' hb⟩

theorem over : Rows.lexerLinesRow.holds Tryd.pinned (OpenSpec.ofChange Rows.lexerLinesSpec) :=
  OpenClaim.holds_of_wide 4 Tryd.f4 rfl rfl rfl rfl rfl rfl rfl ⟨rfl, rfl, rfl, rfl, rfl⟩ rfl rfl rfl rfl rfl (by kernel_rfl) Tryd.func4 (by kernel_rfl)
    (of_decide_eq_true (by kernel_rfl)) (by unfold Func.isWrapper; first | (rw [if_pos (by decide +kernel)]; kernel_rfl) | (rw [if_neg (by decide +kernel)]; exact ⟨rfl, rfl⟩))
    (fun os started H enc _ => lifted os started H enc)

theorem proved : Rows.LexerLinesCardSaid :=
  Claim7.holds_tied_plain_at .later [] [.data, .pinned] true Rows.lexerLinesCard.stood.harness false over (fun _ h => by cases h) (by kernel_rfl) (fun _ h => by cases h) lexerLines_row_tie rfl ⟨rfl, rfl⟩ (by kernel_rfl) rfl
    (fun f fn hf hfn => by
      obtain rfl : f = 4 := Option.some.inj ((show Tryd.prog.funcNamed Tryd.f4.name = some 4 by kernel_rfl).symm.trans hf) |>.symm
      obtain rfl : fn = Tryd.f4 := (Option.some.inj (Tryd.func4.symm.trans hfn)).symm
      exact ⟨by kernel_rfl, fun j t ht => by
        rw [Tryd.params4] at ht
        have hm : t ∈ [9] := by simpa using Array.mem_of_getElem? ht
        have hall : ([9].all fun u => !Tryd.prog.wantsStandIn u) = true := by kernel_rfl
        exact (show Tryd.prog.wantsStandIn t = false by simpa using List.all_eq_true.1 hall t hm)⟩)
    (by kernel_rfl)
#print axioms proved
end Go.Proofs.YtdpkemihmhchcaaDoor.lexerLines
