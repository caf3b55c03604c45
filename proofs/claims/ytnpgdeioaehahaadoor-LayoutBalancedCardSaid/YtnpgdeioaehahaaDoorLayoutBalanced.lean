/- LayoutBalanced: for all texts the law returns true: blocks that are opened are closed, and without the inserted tokens the list is as before. No conditions. -/
import Derived.Test.YtnpgdeioaehahaaDoorLaid
import Derived.Test.YtnpgdeioaehahaaDoorHanded
namespace Go.Proofs.YtnpgdeioaehahaaDoor.layoutBalanced
open Go.ChangeShapes Go.WideShapes Go.ChangeAt Go.RowKit Go.Shelf Go.Proofs.YtnpgdeioaehahaaDoor
open Go.ChangeMaps (open_string)

def fst_ : ByteArray := ⟨#[108, 101, 116, 32, 120, 32, 61, 32, 49, 32, 105, 110, 32, 120]⟩
def fstE : Tok := ⟨9, ⟨#[]⟩, 0, 1, 15⟩
theorem fst_ok : LaidOk fst_ := ⟨by decide +kernel, by decide +kernel, by decide +kernel⟩
theorem fst_last : (toks fst_).getLast? = some fstE := by kernel_rfl
theorem fst_len : (markP (toks fst_) fstE).length = 9 := by kernel_rfl
theorem plain_take (M : List Tok) (j : Nat) (h : j < M.length) : plainL (M.take (j + 1)) = plainL (M.take j) ++ if layK M[j] = true then [] else [M[j]] := by
  rw [List.take_succ_eq_append_getElem h, plainL_app]
theorem plain_le (M : List Tok) (j : Nat) : (plainL (M.take j)).length ≤ (plainL M).length := by
  have h : plainL M = plainL (M.take j) ++ plainL (M.drop j) := by
    unfold plainL
    rw [← List.filter_append, List.take_append_drop]
  rw [h, List.length_append]; omega
set_option maxRecDepth 100000 in
set_option maxHeartbeats 8000000 in
theorem walk (s : ByteArray) (w : World) (m : Int) (hL : Lim w w.heap.size m) :
    Calls Tryd.prog 4 #[.string s] w fun e w' => e = .returned (.bool true) ∧ Below w.heap.size w w' := by
  obtain ⟨it, hit, htz0, htz1, htz2⟩ := info_parts infoTok
  have H0 := Lib.hid (laid_any fst_ w m hL)
  have HS := Lib.hid (fun (W : World) (hb : Keeps (fun _ => False) w W) => laid_any s W m (hL.here (hb.below (fun _ h => h.elim) (Nat.le_refl _)) (Nat.le_refl _)))
  clear hL
  unfold fst_ at H0
  go_enter Tryd.func4, Tryd.ntmps4
  go_wp2_with fail
  with_reducible refine H0.out.mono ?_
  rintro e w1 ⟨hk1, hcs⟩
  rcases hcs with ⟨hno, -⟩ | ⟨-, e0, A1, c1, A2, c2, hl0, rfl, -⟩
  · exact absurd fst_ok hno
  have hl1 := fst_last
  unfold fst_ at hl1
  rw [hl1] at hl0
  obtain rfl : fstE = e0 := by simpa using hl0
  have hln := fst_len
  unfold fst_ at hln
  obtain ⟨N0, hN0⟩ : ∃ N0, (toks { data := #[108, 101, 116, 32, 120, 32, 61, 32, 49, 32, 105, 110, 32, 120] }).length = N0 := ⟨_, rfl⟩
  rw [hln, hN0]
  have HS1 := Lib.hid (HS.out w1 hk1)
  have HK1 := Lib.hid hk1
  clear hk1 hl0 hl1 hln hN0 HS H0
  go_wp2_with fail
  with_reducible refine HS1.out.mono ?_
  rintro e w2 ⟨hk2, (⟨-, B1, n1, d1, B2, n2, d2, rfl⟩ | ⟨hok, e0, B1, d1, B2, d2, hlast, rfl, hsl, ho, hto⟩)⟩
  · have HK2 := Lib.hid (HK1.out.trans hk2 (fun _ _ h => h))
    clear hk2
    go_wp2_with fail
    go_ret
    exact ⟨rfl, HK2.out.below (fun _ h => h.elim) (Nat.le_refl _)⟩
  · obtain ⟨hbal, hpl⟩ := mark_balanced hok.2.2 hlast
    have hlen : (toks s).length ≤ 8193 := by
      obtain ⟨n, h1, h2⟩ := lexS_length s
      have h3 := chk_size hok.1
      show ((lexS s).1.map Tk.tok).length ≤ _
      rw [List.length_map]; omega
    obtain ⟨L, hLq⟩ : ∃ L, toks s = L := ⟨_, rfl⟩
    rw [hLq] at hbal hpl hlen hsl ho hto ⊢
    obtain ⟨M, hM⟩ : ∃ M, markP L e0 = M := ⟨_, rfl⟩
    rw [hM] at hbal hpl hsl ho hto ⊢
    obtain ⟨B0, hB0⟩ : ∃ B0, w2.heap.size = B0 := ⟨_, rfl⟩
    have hlM : M.length ≤ d2 ∧ d2 ≤ maxLen := by
      obtain ⟨A, c, h1, h2, h3⟩ := own_form ho
      simp only [Value.slice.injEq, true_and] at h1
      rw [h1.2]; exact ⟨h2, h3⟩
    have hlM2 : M.length ≤ 9223372036854775807 := by have h1 := hlM.2; have h2 := hlM.1; unfold maxLen at h1; omega
    have HBal := Lib.hid hbal
    have HPl := Lib.hid hpl
    have HLen := Lib.hid hlen
    have HSl := Lib.hid hsl
    have HO := Lib.hid ho
    have HTo := Lib.hid hto
    have HK2 := Lib.hid (HK1.out.trans hk2 (fun _ _ h => h))
    have HB0 := Lib.hid hB0
    have HSlM : Hid (Sl w2 (fun b => (Value.slice B2 M.length d2).ownBlock = some b) Tok.d M (.slice B2 M.length d2)) := Sl.of_own (F := fun _ => False) ho rfl (toks_rp M hto) (fun _ h => h.elim) (fun _ h => h)
    have HLt : Hid (∀ b, (Value.slice B2 M.length d2).ownBlock = some b → b < B0) := fun b hb => by have := (ho.lt b hb).2; omega
    clear hbal hpl hlen hsl ho hto hk2 hlM hM hLq hlast hok hB0
    go_wp2_with fail
    go_loopw [9, 10, 35] (fun d p i wr => ∃ (j dd : Nat) (Ap : Option Addr) (cp : Nat), j ≤ M.length ∧ dd ≤ j ∧ .int .i64 (dd : Int) = d ∧ .slice Ap (plainL (M.take j)).length cp = p ∧ .int .i64 (j : Int) = i ∧ Hid (deepR (M.drop j) dd = some 0) ∧ wr.ownsRow B0 28 5 (.slice Ap (plainL (M.take j)).length cp) (plainL (M.take j)).length ((plainL (M.take j)).flatMap Tok.cells) ∧ Keeps (fun b => B0 ≤ b) w2 wr) (fun _ _ i _ => M.length - (intOf i).toNat)
    case atStart => exact ⟨0, 0, none, 0, Nat.zero_le _, Nat.le_refl _, rfl, rfl, rfl, HBal.out, World.ownsRow_nil _ _ _ _, Keeps.refl _ _⟩
    case round =>
      obtain ⟨j, dd, Ap, cp, hj, hdj, rfl, rfl, rfl, hdr, hown, hkr⟩ := hrel
      obtain ⟨wx, hwx⟩ : ∃ wx, wx = wr := ⟨_, rfl⟩
      rw [← hwx] at hown hkr ⊢
      clear hwx
      by_cases hlt : j < M.length
      · obtain ⟨g, off, hA, -, d0, d1, d2', d3, d4, -⟩ := Tok.get (HSlM.out.keeps hkr (fun b hb h => by have := HLt.out b hb; omega)) hlt
        have hptk := plain_take M j hlt
        have hple := plain_le M j
        have hdr2 := hdr.out
        rw [List.drop_eq_getElem_cons hlt, deepR] at hdr2
        have htok := HTo.out M[j] (List.getElem_mem hlt)
        obtain ⟨t, ht⟩ : ∃ t, M[j] = t := ⟨_, rfl⟩
        rw [ht] at d0 d1 d2' d3 d4 hptk hdr2 htok
        subst hA
        have hnn : ¬ dstep t (dd : Int) < 0 := fun h => by rw [if_pos h] at hdr2; cases hdr2
        rw [if_neg hnn] at hdr2
        obtain ⟨P, hP⟩ : ∃ P, plainL (M.take j) = P := ⟨_, rfl⟩
        rw [hP] at hown hptk hple ⊢
        have hPl : P.length ≤ 8193 := by rw [HPl.out] at hple; have := HLen.out; omega
        obtain ⟨b12, hb12⟩ : ∃ b12, wx.heap.size = b12 := ⟨_, rfl⟩
        obtain ⟨W12, hW12⟩ : ∃ W12, wx.alloc (.cells #[.int .i64 t.kind, .string t.text, .int .i64 t.n, .int .i64 t.line, .int .i64 t.col] 28) = W12 := ⟨_, rfl⟩
        have hk12 : Keeps (fun b => B0 ≤ b) w2 W12 := by rw [← hW12]; exact hkr.alloc _
        have hB12 : Blk W12 b12 28 [.int .i64 t.kind, .string t.text, .int .i64 t.n, .int .i64 t.line, .int .i64 t.col] := by rw [← hW12, ← hb12]; exact Blk.new wx _ [_, _, _, _, _]
        have hown12 : W12.ownsRow B0 28 5 (.slice Ap P.length cp) P.length (P.flatMap Tok.cells) := by rw [← hW12]; exact hown.alloc _
        have hBz : B0 ≤ W12.heap.size := by have h1 := hk12.size; have h2 := HB0.out; omega
        have x0 := hB12.cell (i := 0) rfl
        have x1 := hB12.cell (i := 1) rfl
        have x2 := hB12.cell (i := 2) rfl
        have x3 := hB12.cell (i := 3) rfl
        have x4 := hB12.cell (i := 4) rfl
        have hji : (j : Int) < (M.length : Int) := by omega
        have hj0 : (0 : Int) ≤ (j : Int) := by omega
        have hd0 : (0 : Int) ≤ (dd : Int) := by omega
        have hd1 : (dd : Int) + 1 ≤ 9223372036854775807 := by omega
        have hd1n : ¬ (dd : Int) + 1 < 0 := by omega
        have HK12 := Lib.hid hk12
        have HOwn := Lib.hid hown12
        have HW12 := Lib.hid hW12
        have HBn := Lib.hid hb12
        have HDr := Lib.hid hdr2
        have HNn := Lib.hid hnn
        have HPt := Lib.hid hptk
        have HTk := Lib.hid htok
        have HP := Lib.hid hP
        clear hown hkr hdr hdr2 htok ht hple hptk hk12 hB12 hown12 hW12 hb12 hnn hP
        go_upto_region 12 with (fail)
        rw [HW12.out, HBn.out]
        clear d0 d1 d2' d3 d4
        by_cases h6 : t.kind = 6
        · have hkb : (t.kind == 6) = true := by simpa using h6
          have hds : Hid (dstep t (dd : Int) = ((dd + 1 : Nat) : Int)) := by show dstep t _ = _; unfold dstep; rw [if_pos h6]; omega
          have hlk : Hid (layK t = true) := by show layK t = true; unfold layK; simp [h6]
          clear h6
          go_wp2_with fail
          go_roundw
          case rel =>
            refine ⟨j + 1, dd + 1, Ap, cp, by omega, by omega, by go_num, ?_, by go_num, by rw [← hds.out]; exact HDr.out, ?_, HK12.out⟩
            · rw [HPt.out, hlk.out, if_pos rfl, List.append_nil]
            · rw [HPt.out, hlk.out, if_pos rfl, List.append_nil]; exact HOwn.out
          case measure => simp [intOf]; omega
        · have hkb : (t.kind == 6) = false := by simpa using h6
          by_cases h7 : t.kind = 7
          · have hkb7 : (t.kind == 7) = true := by simpa using h7
            have hd7 : dstep t (dd : Int) = (dd : Int) - 1 := by unfold dstep; rw [if_neg h6, if_pos h7]
            obtain ⟨k, hk⟩ : ∃ k, dd = k + 1 := ⟨dd - 1, by have := HNn.out; omega⟩
            subst hk
            have hds : Hid (dstep t ((k + 1 : Nat) : Int) = (k : Int)) := by show dstep t _ = _; rw [hd7]; omega
            have hlk : Hid (layK t = true) := by show layK t = true; unfold layK; simp [h7]
            have hk0 : ¬ (k : Int) < 0 := by omega
            clear h6 h7 hd7
            go_wp2_with fail
            go_roundw
            case rel =>
              refine ⟨j + 1, k, Ap, cp, by omega, by omega, by go_num, ?_, by go_num, by rw [← hds.out]; exact HDr.out, ?_, HK12.out⟩
              · rw [HPt.out, hlk.out, if_pos rfl, List.append_nil]
              · rw [HPt.out, hlk.out, if_pos rfl, List.append_nil]; exact HOwn.out
            case measure => simp [intOf]; omega
          · have hkb7 : (t.kind == 7) = false := by simpa using h7
            have hds : Hid (dstep t (dd : Int) = (dd : Int)) := by show dstep t _ = _; unfold dstep; rw [if_neg h6, if_neg h7]
            have hdn : ¬ (dd : Int) < 0 := by omega
            by_cases h8 : t.kind = 8
            · have hkb8 : (t.kind == 8) = true := by simpa using h8
              have hlk : Hid (layK t = true) := by show layK t = true; unfold layK; simp [h8]
              clear h6 h7 h8
              go_wp2_with fail
              go_roundw
              case rel =>
                refine ⟨j + 1, dd, Ap, cp, by omega, by omega, rfl, ?_, by go_num, by rw [← hds.out]; exact HDr.out, ?_, HK12.out⟩
                · rw [HPt.out, hlk.out, if_pos rfl, List.append_nil]
                · rw [HPt.out, hlk.out, if_pos rfl, List.append_nil]; exact HOwn.out
              case measure => simp [intOf]; omega
            · have hkb8 : (t.kind == 8) = false := by simpa using h8
              have hlk : Hid (layK t = false) := by show layK t = false; unfold layK; simp [h6, h7, h8]
              clear h6 h7 h8
              go_upto_region 13 with (fail)
              go_wp2_with (at_builtin; refine wpList_append_lies _ rfl _ _ 22 rfl B0 28 it _ 5 48 Tryd.underlying22 hit htz0 htz1 htz2 rfl (by omega) (.slice Ap P.length cp) P.length (P.flatMap Tok.cells) rfl (World.ownsRow.alloc HOwn.out _) ⟨W12.heap.size, 0, none⟩ 1 1 [.int .i64 t.kind, .string t.text, .int .i64 t.n, .int .i64 t.line, .int .i64 t.col] rfl rfl (World.news_of_block (cs := #[.int .i64 t.kind, .string t.text, .int .i64 t.n, .int .i64 t.line, .int .i64 t.col]) (t := 28) (fr := (0, 0)) (heap_alloc_new _ _)) (by simp [Value.oneCell']) (by omega) (by unfold maxLen; omega) (by omega) (by simp; omega) (W12.heap.size + 1) (by simp) ?_; intro gg cap w13 hown1 hgrow hat hlt1; have hk13 : Keeps (fun b => B0 ≤ b) W12 w13 := ((Keeps.refl _ _).alloc _).grown hgrow (fun j hj hjl => (HOwn.out.lt _ hj).1))
              have HK13 := Lib.hid (HK12.out.trans hk13 (fun _ _ h => h))
              have HOwn1 := Lib.hid hown1
              clear hown1 hgrow hat hlt1 hk13
              go_roundw
              case rel =>
                have hl1 : plainL (M.take (j + 1)) = P ++ [t] := by rw [HPt.out, hlk.out]; rfl
                refine ⟨j + 1, dd, some ⟨gg, 0, none⟩, cap, by omega, by omega, rfl, ?_, by go_num, by rw [← hds.out]; exact HDr.out, ?_, HK13.out⟩
                · rw [hl1, List.length_append]; rfl
                · rw [hl1, List.length_append, List.flatMap_append]
                  have h1 := HOwn1.out
                  simpa [Tok.cells] using h1
              case measure => simp [intOf]; omega
      · have hjl : ¬ (j : Int) < (M.length : Int) := by omega
        have hje : j = M.length := by omega
        subst hje
        have hdr2 := hdr.out
        rw [List.drop_of_length_le (Nat.le_refl _), deepR] at hdr2
        have hdz : dd = 0 := by
          have : (dd : Int) = 0 := by simpa using hdr2
          omega
        subst hdz
        rw [List.take_of_length_le (Nat.le_refl _), HPl.out] at hown ⊢
        have hokL : ∀ x ∈ L, TokOk x := fun x hx => HTo.out x (by rw [← HPl.out] at hx; exact (List.mem_filter.1 hx).1)
        have hs1 := Sl.of_own (f := Tok.d) (F := fun _ => False) (G := fun b => b < wx.heap.size) hown rfl (toks_rp L hokL) (fun _ h => h.elim) (fun b hb => (hown.lt b hb).2)
        have hs2 := HSl.out.keeps hkr (fun b hb h => by have := HB0.out; omega)
        have HEq : Hid (Calls Tryd.prog 12 #[.slice Ap L.length cp, .slice B1 L.length d1] wx (fun e w' => e = .returned (.bool true) ∧ Keeps (fun _ => False) wx w')) := by
          refine (tokEqual L L _ _ _ _ wx hs1 hs2).mono ?_
          rintro e w' ⟨he, hb⟩
          exact ⟨by rw [he, eqBy_refl _ Tok.eqB_refl], Keeps.of_below (X := fun _ => False) hb⟩
        have HKr := Lib.hid hkr
        clear hdr hdr2 hown hkr hokL hs1 hs2 hlt
        go_wp2_with fail
        with_reducible refine HEq.out.mono ?_
        rintro e w5 ⟨rfl, hk5⟩
        have HF : Hid (Below w.heap.size w w5) := by
          have h1 := HK2.out
          have h2 := h1.size
          have h3 := HB0.out
          exact ((h1.mono (Y := fun b => B0 ≤ b) (fun _ _ h => h.elim)).trans (HKr.out.trans hk5 (fun _ _ h => h.elim)) (fun _ _ h => h)).below (fun i hi => by omega) (Nat.le_refl _)
        clear hk5
        go_wp2_with fail
        go_ret
        exact ⟨rfl, HF.out⟩
theorem own : ownKnob Tryd.prog.godebug = none := by kernel_rfl
theorem laid : laidOutB Tryd.prog = true := by kernel_rfl

set_option maxRecDepth 100000 in
theorem lifted (os : Os) (started : os.Started) (H : Type) (enc : TypeId × Value → H) :
    ReturnsInHanded {} Tryd.checked os 4 .any (fun w args => (Rows.layoutBalancedSpec.pre enc Tryd.prog Tryd.f4 [] false w args ∧ laidMetH Tryd.prog Rows.layoutBalancedRow.laid w) ∧ sizedMet enc Tryd.prog Tryd.f4 (OpenSpec.ofChange Rows.layoutBalancedSpec) false w args)
      (Rows.layoutBalancedSpec.post enc Tryd.prog Tryd.f4 false true false false) := by
  refine handed_shaped_laid (C := Tryd.checked) (L := Rows.layoutBalancedRow.laid) own started (by kernel_rfl) Tryd.func4
    (ChangeSpec.witness_shaped (enc := enc) (C := Tryd.checked) (os := os) (X := fun w _ => laidMetH Tryd.prog Rows.layoutBalancedRow.laid w) false (World.laidAll Tryd.prog os Rows.layoutBalancedRow.laid) #[.string ⟨#[]⟩] 8 (World.laidAll_os _ _ _)
      (World.shaped_of_ZipB (by kernel_rfl) (by kernel_rfl)) (by kernel_rfl) (by kernel_rfl) (by kernel_rfl)
      (by rw [MakeChecks.laidMetH_plain _ _ _ (by kernel_rfl)]; exact laidMet_laidAll _ (by kernel_rfl) (by kernel_rfl))) ?_
  intro W base args ds gs before hval0 hW _ hsh hlaid
  obtain ⟨m, hm⟩ := Tryd.laysM144.s1_3 W hsh
  have hLim : Lim W W.heap.size m := ⟨hm, World.block_lt_of_cell? _ _ hm⟩
  have hval : ∀ (j : Nat) t v, Tryd.f4.params[j]? = some t → args[j]? = some v → Value.okWide Tryd.prog W .any base t v := hval0
  have hW' := hW
  obtain ⟨p, q, hA0, hV, hbef, hfz, hnd⟩ := hW
  have hA : DataW.TrodAll enc Tryd.prog W 0 (fun _ => true) true Tryd.f4.params.toList args.toList ds p := hA0
  rw [Tryd.params4] at hA hval
  obtain ⟨v0, vs0, d0, ds0, p0, q0, hargs, hds, rfl, h0, r0⟩ := trodAll_cons hA
  obtain ⟨rfl, rfl, rfl⟩ := trodAll_nil r0
  obtain rfl : args = #[v0] := by cases args; simp_all
  obtain ⟨rfl, _⟩ := trodVars_none hV
  subst hds
  obtain ⟨a0, rfl, rfl, rfl, s0⟩ := open_string Tryd.underlying9 (hval 0 9 v0 rfl rfl) h0
  refine (walk a0 W m hLim).mono fun e W' ⟨he, hb⟩ => ?_
  subst he
  exact ⟨_, rfl, law_post laid (by kernel_rfl) rfl Tryd.underlying4 rfl rfl rfl rfl hW' hb⟩

theorem over : Rows.layoutBalancedRow.holds Tryd.pinned (OpenSpec.ofChange Rows.layoutBalancedSpec) :=
  OpenClaim.holds_of_wide 4 Tryd.f4 rfl rfl rfl rfl rfl rfl rfl ⟨rfl, rfl, rfl, rfl, rfl⟩ rfl rfl rfl rfl rfl (by kernel_rfl) Tryd.func4 (by kernel_rfl)
    (of_decide_eq_true (by kernel_rfl)) (by unfold Func.isWrapper; first | (rw [if_pos (by decide +kernel)]; kernel_rfl) | (rw [if_neg (by decide +kernel)]; exact ⟨rfl, rfl⟩))
    (fun os started H enc _ => lifted os started H enc)

theorem proved : Rows.LayoutBalancedCardSaid :=
  Claim7.holds_tied_plain_at .later [] [.data, .pinned] true Rows.layoutBalancedCard.stood.harness false over (fun _ h => by cases h) (by kernel_rfl) (fun _ h => by cases h) layoutBalanced_row_tie rfl ⟨rfl, rfl⟩ (by kernel_rfl) rfl
    (fun f fn hf hfn => by
      obtain rfl : f = 4 := Option.some.inj ((show Tryd.prog.funcNamed Tryd.f4.name = some 4 by kernel_rfl).symm.trans hf) |>.symm
      obtain rfl : fn = Tryd.f4 := (Option.some.inj (Tryd.func4.symm.trans hfn)).symm
      exact ⟨by kernel_rfl, fun j t ht => by
        rw [Tryd.params4] at ht
        have hm : t ∈ [9] := by simpa using Array.mem_of_getElem? ht
        have hall : ([9].all fun u => !Tryd.prog.wantsStandIn u) = true := by kernel_rfl
        exact (show Tryd.prog.wantsStandIn t = false by simpa using List.all_eq_true.1 hall t hm)⟩)
    (by kernel_rfl)
#print axioms proved
end Go.Proofs.YtnpgdeioaehahaaDoor.layoutBalanced
