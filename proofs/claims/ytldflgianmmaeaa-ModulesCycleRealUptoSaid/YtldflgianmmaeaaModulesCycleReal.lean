/- ModulesCycleReal, where what it reads is of bulk at most 1048576: for all lists the law returns true: each module of a cycle imports the next one. Condition: the bound of the second form. -/
import Derived.Test.YtldflgianmmaeaaCycCycle
import Derived.Test.YtldflgianmmaeaaBulkStrs
import Derived.JoinedCond
namespace Go.Proofs.Ytldflgianmmaeaa
open Go.RowKit

def sA : ByteArray := ⟨#[65]⟩
def sB : ByteArray := ⟨#[66]⟩
theorem sortB_one (x : Bt) : sortB [x] = [x] := by simp [sortB, sortT, toB_data]
theorem sortB_AB : sortB [sA, sB] = [sA, sB] := by
  have h : sortT [[65], [66]] = [[65], [66]] := List.mergeSort_of_pairwise (by decide)
  show (sortT [[65], [66]]).map toB = _
  rw [h]
  rfl
theorem normB_one (x : Bt) : normB [x] = [x] := by
  unfold normB
  rw [norm_self (by simp)]
  simp [toB_data]
theorem first_cycle : cycP [sA, sB] [[sB], [sA]] = some [sA, sB] := by
  have iA : impOf [sA, sB] [[sB], [sA]] sA = [sB] := by decide
  have iB : impOf [sA, sB] [[sB], [sA]] sB = [sA] := by decide
  have w1 : walkP [sA, sB] [[sB], [sA]] 0 [sA] = none := by
    rw [walkP, show lastB [sA] = sA from rfl, iA, sortB_one, if_neg (by decide)]
  have w2 : walkP [sA, sB] [[sB], [sA]] 0 [sB] = none := by
    rw [walkP, show lastB [sB] = sB from rfl, iB, sortB_one, if_neg (by decide)]
  have w3 : walkP [sA, sB] [[sB], [sA]] 0 [sA, sB] = some [sA, sB] := by
    rw [walkP, show lastB [sA, sB] = sB from rfl, iB, sortB_one, if_pos (by decide)]
  have r : reachB [sA, sB] [[sB], [sA]] sA 2 [sA] = true := by
    rw [reachB, List.flatMap_cons, List.flatMap_nil, List.append_nil, iA, normB_one, reachB, List.flatMap_cons, List.flatMap_nil, List.append_nil, iB, normB_one]
    decide
  have w4 : walkP [sA, sB] [[sB], [sA]] 1 [sA] = some [sA, sB] := by
    rw [walkP, show lastB [sA] = sA from rfl, show headB [sA] = sA from rfl, r, if_pos rfl, iA, sortB_one, tryN, if_neg (by decide)]
    show (walkP [sA, sB] [[sB], [sA]] 0 [sA, sB]).or _ = _
    rw [w3, Option.some_or]
  rw [cycP, show [sA, sB].length = 1 + 1 from rfl, cycF, sortB_AB, tryS, w1, Option.none_or, tryS, w2, Option.none_or, tryS, Option.none_or, cycF, sortB_AB, tryS, w4, Option.some_or, Option.some_or]
theorem bytes_not {a b : Bt} (h : leS a b = true) : Op.bytesLess b.toList a.toList = false := by
  rw [bytesLess_eq, ByteArray.toList_eq, ByteArray.toList_eq]
  unfold leS at h
  exact decide_eq_false (of_decide_eq_true h)
end Go.Proofs.Ytldflgianmmaeaa

namespace Go.Proofs.Ytldflgianmmaeaa.modulesCycleReal
open Go.ChangeShapes Go.WideShapes Go.ChangeAt Go.RowKit Go.Shelf

theorem own : ownKnob Try.prog.godebug = none := by kernel_rfl

set_option maxRecDepth 100000 in
set_option maxHeartbeats 8000000 in
theorem walk (N : List Bt) (I : List (List Bt)) (nv iv : Value) (w : World) (hN : Sl w (· < w.heap.size) dStr N nv) (hI : Sl w (· < w.heap.size) dStrs I iv) (hT : total I ≤ 1048576) :
    Calls Try.prog 3 #[nv, iv] w fun e w' => e = .returned (.bool true) ∧ Below w.heap.size w w' := by
  obtain ⟨A, c, rfl, hlc, hcm, _⟩ := hN.form
  obtain ⟨B, c', rfl, hmc, hcm', _⟩ := hI.form
  have hl : N.length ≤ 9223372036854775807 := by unfold maxLen at hcm; omega
  have hm : I.length ≤ 9223372036854775807 := by unfold maxLen at hcm'; omega
  go_enter Try.func3, Try.ntmps3
  go_wp2_with fail
  obtain ⟨g0, hg0⟩ : ∃ g0, w.heap.size = g0 := ⟨_, rfl⟩
  obtain ⟨W0, hW0⟩ : ∃ W0, (((w.alloc (.cells #[.string ⟨#[65]⟩, .string ⟨#[66]⟩] 9)).alloc (.cells #[.string ⟨#[66]⟩] 9)).alloc (.cells #[.string ⟨#[65]⟩] 9)).alloc (.cells #[.slice (some ⟨w.heap.size + 1, 0, none⟩) 1 1, .slice (some ⟨w.heap.size + 1 + 1, 0, none⟩) 1 1] 22) = W0 := ⟨_, rfl⟩
  have b1 : Blk (w.alloc (.cells #[.string ⟨#[65]⟩, .string ⟨#[66]⟩] 9)) g0 9 [.string ⟨#[65]⟩, .string ⟨#[66]⟩] := by rw [← hg0]; exact Blk.new _ _ [_, _]
  have b2 : Blk ((w.alloc (.cells #[.string ⟨#[65]⟩, .string ⟨#[66]⟩] 9)).alloc (.cells #[.string ⟨#[66]⟩] 9)) (g0 + 1) 9 [.string ⟨#[66]⟩] := by
    have := Blk.new (w.alloc (.cells #[.string ⟨#[65]⟩, .string ⟨#[66]⟩] 9)) 9 [.string ⟨#[66]⟩]
    simpa [hg0] using this
  have b3 : Blk (((w.alloc (.cells #[.string ⟨#[65]⟩, .string ⟨#[66]⟩] 9)).alloc (.cells #[.string ⟨#[66]⟩] 9)).alloc (.cells #[.string ⟨#[65]⟩] 9)) (g0 + 1 + 1) 9 [.string ⟨#[65]⟩] := by
    have := Blk.new ((w.alloc (.cells #[.string ⟨#[65]⟩, .string ⟨#[66]⟩] 9)).alloc (.cells #[.string ⟨#[66]⟩] 9)) 9 [.string ⟨#[65]⟩]
    simpa [hg0] using this
  have b4 : Blk W0 (g0 + 1 + 1 + 1) 22 [.slice (some ⟨g0 + 1, 0, none⟩) 1 1, .slice (some ⟨g0 + 1 + 1, 0, none⟩) 1 1] := by
    have := Blk.new (((w.alloc (.cells #[.string ⟨#[65]⟩, .string ⟨#[66]⟩] 9)).alloc (.cells #[.string ⟨#[66]⟩] 9)).alloc (.cells #[.string ⟨#[65]⟩] 9)) 22 [.slice (some ⟨w.heap.size + 1, 0, none⟩) 1 1, .slice (some ⟨w.heap.size + 1 + 1, 0, none⟩) 1 1]
    rw [hW0] at this
    simpa [hg0] using this
  have a1 : Blk W0 g0 9 [.string ⟨#[65]⟩, .string ⟨#[66]⟩] := by rw [← hW0]; exact ((b1.alloc _).alloc _).alloc _
  have a2 : Blk W0 (g0 + 1) 9 [.string ⟨#[66]⟩] := by rw [← hW0]; exact (b2.alloc _).alloc _
  have a3 : Blk W0 (g0 + 1 + 1) 9 [.string ⟨#[65]⟩] := by rw [← hW0]; exact b3.alloc _
  have hb0 : Below w.heap.size w W0 := by
    rw [← hW0]
    exact Below.alloc (Below.alloc (Below.alloc (Below.alloc (Below.refl _ _) (Nat.le_refl _) _) (by simp) _) (by simp; omega) _) (by simp; omega) _
  clear b1 b2 b3
  rw [hW0, hg0]
  have hz : ∀ y ∈ [sA, sB], y.size ≤ maxLen := by decide
  have s1 : Sl W0 (· < W0.heap.size) dStr [sA, sB] (.slice (some ⟨g0, 0, none⟩) 2 2) := sl_blk (l := [sA, sB]) a1 hz (by decide) _ a1.lt
  have s2 : Sl W0 (· < W0.heap.size) dStr [sB] (.slice (some ⟨g0 + 1, 0, none⟩) 1 1) := sl_blk (l := [sB]) a2 (by decide) (by decide) _ a2.lt
  have s4 : Sl W0 (· < W0.heap.size) dStr [sA] (.slice (some ⟨g0 + 1 + 1, 0, none⟩) 1 1) := sl_blk (l := [sA]) a3 (by decide) (by decide) _ a3.lt
  have s3 : Sl W0 (· < W0.heap.size) dStrs [[sB], [sA]] (.slice (some ⟨g0 + 1 + 1 + 1, 0, none⟩) 2 2) := sls_blk (L := [[sB], [sA]]) b4 (by decide) _ b4.lt (by
    rw [List.map_cons, rpAll_cons]
    refine ⟨[_], [_], rfl, s2, ?_⟩
    rw [List.map_cons, rpAll_cons]
    exact ⟨[_], [], rfl, s4, by simp [RpAll]⟩)
  have HA := Lib.hid (cycle_any [sA, sB] [[sB], [sA]] _ _ W0 s1 s3 (by decide))
  have hN0 := hN.below (fun _ h => h) hb0
  have hI0 := hI.below (fun _ h => h) hb0
  clear a1 a2 a3 b4 s1 s2 s3 s4 hW0
  with_reducible refine HA.out.mono ?_
  rintro e W1 ⟨hb1, ⟨x1, hx1, hc1, rfl⟩ | ⟨_, hc1, rfl⟩ | ⟨c0, ad0, cp0, _, hc0, rfl, hs0⟩⟩
  · exact absurd hc1.symm (by rw [show chkM [sA, sB] [[sB], [sA]] = 0 from by decide]; exact hx1)
  · rw [first_cycle] at hc1; cases hc1
  rw [first_cycle] at hc0
  obtain rfl := (Option.some.inj hc0)
  have hbw1 := hb0.trans (hb1.mono hb0.size)
  change Sl W1 _ dStr [sA, sB] (.slice (some ad0) 2 cp0) at hs0
  have HEq := Lib.hid (fun (W : World) (g : Nat) (hk : Keeps (fun _ => False) W1 W) (hb : Blk W g 9 [.string ⟨#[65]⟩, .string ⟨#[66]⟩]) =>
    (strEqual [sA, sB] [sA, sB] _ (.slice (some ⟨g, 0, none⟩) 2 2) _ (fun _ => True) W (hs0.keeps hk (fun _ _ h => h)) (sl_blk (l := [sA, sB]) hb hz (by decide) _ trivial)).mono (R' := fun e w' => e = .returned (.bool true) ∧ Below W.heap.size W w') fun e w' ⟨he, hw⟩ => ⟨by rw [he]; exact ret_bool (by decide), hw⟩)
  clear hz HA hs0 hc0
  go_wp2_with fail
  with_reducible refine (HEq.out _ _ ((Keeps.refl _ _).alloc _) (Blk.new _ _ [_, _])).mono ?_
  rintro e W2 ⟨rfl, hb2⟩
  have hbw2 : Below w.heap.size w W2 := (Below.alloc hbw1 hbw1.size _).trans (hb2.mono (by have := hbw1.size; simp; omega))
  have hwz2 := hbw2.size
  have hN2 := (hN.below (fun _ h => h) hbw2).mono fun b hb => Nat.lt_of_lt_of_le hb hwz2
  have hI2 := (hI.below (fun _ h => h) hbw2).mono fun b hb => Nat.lt_of_lt_of_le hb hwz2
  have HA2 := Lib.hid (cycle_any N I _ _ W2 hN2 hI2 hT)
  go_wp2_with fail
  with_reducible refine HA2.out.mono ?_
  rintro e W3 ⟨hb3, ⟨x3, hx3, _, rfl⟩ | ⟨_, _, rfl⟩ | ⟨cy, ad, cp, hchk, hcy, rfl, hs3⟩⟩
  · have hne3 : (x3 != 0) = true := bne_iff_ne.2 hx3
    go_wp2_with fail
    go_ret
    exact ⟨rfl, hbw2.trans (hb3.mono hwz2)⟩
  · go_wp2_with fail
    go_ret
    exact ⟨rfl, hbw2.trans (hb3.mono hwz2)⟩
  · have hok := okm hchk
    have hC := cycF_some hok.imp_in hcy
    have hbw3 := hbw2.trans (hb3.mono hwz2)
    have hN3 := (hN2.below (fun _ h => h) hb3)
    have hI3 := (hI2.below (fun _ h => h) hb3)
    obtain ⟨n, hn⟩ : ∃ n, cy.length = n + 1 := ⟨cy.length - 1, by have := List.length_pos_iff.2 hC.ne; omega⟩
    obtain ⟨g, off, hadr, hgl, d1, d8⟩ := dStr.get hs3 (show 0 < cy.length by omega)
    obtain rfl := Option.some.inj hadr
    rw [← headB_get hn, Nat.add_zero] at d1
    have hcl : cy.length ≤ 9223372036854775807 := by
      obtain ⟨_, c9, e9, h9, h8, _⟩ := hs3.form
      simp only [Value.slice.injEq] at e9
      unfold maxLen at h8; omega
    obtain ⟨M, hM⟩ : ∃ M, cy.length = M := ⟨_, rfl⟩
    have HM := Lib.hid hM
    have HN1 := Lib.hid hn
    rw [hM] at hcl hn ⊢
    have m0 : (1 : Int) ≤ (M : Int) := by omega
    have m1 : (M : Int) ≤ 9223372036854775807 := by omega
    have m2 : (0 : Int) < (M : Int) := by omega
    have hnext : ∀ q (hq : q < cy.length), ∃ nx, ∃ hx : nx < cy.length, ((q : Int) + 1).tmod (M : Int) = (nx : Int) ∧ cy[nx] ∈ impOf N I cy[q] := by
      intro q hq
      by_cases h : q + 1 < cy.length
      · refine ⟨q + 1, h, ?_, hC.chain.get q _ _ (List.getElem?_eq_getElem hq) (List.getElem?_eq_getElem h)⟩
        rw [Int.tmod_eq_emod_of_nonneg (by omega)]
        exact Int.emod_eq_of_lt (by omega) (by omega)
      · refine ⟨0, by omega, ?_, ?_⟩
        · rw [show (q : Int) + 1 = (M : Int) by omega, Int.tmod_self]; rfl
        · have h1 := hC.back
          rw [headB_get HN1.out, lastB_get HN1.out] at h1
          have e : n = q := by have := HN1.out; omega
          subst e
          exact h1
    have HNX := Lib.hid hnext
    have hcin := hC.inN
    have hcle := hC.least
    rw [hM] at hs3
    clear hadr d8 hn hM hcy hchk hnext hC
    go_wp2_with fail
    go_loopw [41] (fun i wr => ∃ q : Nat, q ≤ M ∧ i = .int .i64 q ∧ Below W3.heap.size W3 wr) (fun i _ => M - (intOf i).toNat)
    case atStart => exact ⟨0, Nat.zero_le _, rfl, Below.refl _ _⟩
    case round =>
      obtain ⟨q, hq, rfl, hb⟩ := hrel
      by_cases hlt : q < M
      · have hlt' : q < cy.length := by rw [HM.out]; exact hlt
        obtain ⟨nx, hx, ht, hmem⟩ := HNX.out q hlt'
        obtain ⟨ga, oa, ha, _, e0, _⟩ := dStr.get (hs3.later hb) hlt'
        simp only [Option.some.injEq, Addr.mk.injEq, and_true] at ha
        obtain ⟨rfl, rfl⟩ := ha
        obtain ⟨gb, ob, hb', _, e1, _⟩ := dStr.get (hs3.later hb) hx
        simp only [Option.some.injEq, Addr.mk.injEq, and_true] at hb'
        obtain ⟨rfl, rfl⟩ := hb'
        have hmN := hcin _ (List.getElem_mem hlt')
        have hle := bytes_not (hcle _ (List.getElem_mem hlt'))
        have d2 : wr.cell? _ = _ := (hb.cell hgl).trans d1
        obtain ⟨i, hi, f1, f2⟩ := hok.imp_at hmN
        have HIx := Lib.hid (strIndex N cy[q] _ _ wr (hN3.later hb))
        rw [f1] at HIx
        obtain ⟨g2, off2, lv, rfl, _, c3, hlv⟩ := dStrs.get (hI3.later hb) hi
        rw [f2] at hmem
        have HCo := Lib.hid (strContains I[i] cy[nx] _ _ wr hlv)
        have hin := isIn_iff.2 hmem
        unfold isIn at hin
        rw [hin] at HCo
        obtain ⟨m, hm⟩ : ∃ m, cy[q] = m := ⟨_, rfl⟩
        obtain ⟨x, hx'⟩ : ∃ x, cy[nx] = x := ⟨_, rfl⟩
        rw [hm] at e0 HIx hle
        rw [hx'] at e1 HCo
        obtain ⟨D0, c4, rfl, _⟩ := hlv.form
        have q0 : (0 : Int) ≤ (q : Int) := by omega
        have q1 : (q : Int) < (M : Int) := by omega
        have i1 : (0 : Int) ≤ (i : Int) := by omega
        have i2 : (i : Int) < (I.length : Int) := by omega
        have x0 : (0 : Int) ≤ (nx : Int) := by omega
        have x1 : (nx : Int) < (M : Int) := by have := HM.out; omega
        clear hm hx' f1 f2 hin hmem
        go_wp2_with fail
        with_reducible refine HIx.out.mono ?_
        rintro e w4 ⟨rfl, rfl⟩
        go_wp2_with fail
        with_reducible refine HCo.out.mono ?_
        rintro e w4 ⟨rfl, rfl⟩
        go_wp2_with fail
        go_roundw
        case rel => exact ⟨q + 1, by omega, by go_num, hb⟩
        case measure => simp [intOf]; omega
      · obtain rfl : q = M := by omega
        have q1 : ¬ (q : Int) < (q : Int) := by omega
        go_wp2_with fail
        go_ret
        subst hg0
        exact ⟨ret_bool (decide_eq_true (by omega)), hbw3.trans (hb.mono hbw3.size)⟩

theorem laid : laidOutB Try.prog = true := by kernel_rfl

set_option maxRecDepth 100000 in
theorem lifted (os : Os) (started : os.Started) (H : Type) (enc : TypeId × Value → H) (F : Stop.Interp) :
    ReturnsInHanded {} Try.checked os 3 .any ((Rows.OpenSpec.upto Rows.modulesCycleRealSpec).pre6 enc Try.prog Try.f3 Rows.modulesCycleRealUptoRow.domain false) (((Rows.OpenSpec.upto Rows.modulesCycleRealSpec).at F).post enc Try.prog Try.f3 false true false false) := by
  refine returnsInHanded_of_cond (C := Try.checked) (s := Rows.OpenSpec.upto Rows.modulesCycleRealSpec) (k := Rows.uptoSmall) rfl own started (by kernel_rfl) Try.func3
    (OpenSpec.witness (enc := enc) (C := Try.checked) (s := Rows.OpenSpec.upto Rows.modulesCycleRealSpec) (k := Rows.uptoSmall) rfl false ⟨#[], #[.slice none 0 0, .slice none 0 0], []⟩ 8 (by kernel_rfl) (by kernel_rfl) (by kernel_rfl)
      (x := ([.nil, .nil], [], [])) (by kernel_rfl) rfl (by kernel_rfl)) ?_
  intro W base args ds gs before hval0 hW _ hk0 _
  have hval : ∀ (j : Nat) t v, Try.f3.params[j]? = some t → args[j]? = some v → Value.okWide Try.prog W .any base t v := hval0
  have hW' := hW
  obtain ⟨p, q, hA0, hV, hbef, hfz, hnd⟩ := hW
  have hA : DataW.TrodAll enc Try.prog W 0 (fun _ => true) true Try.f3.params.toList args.toList ds p := hA0
  rw [Try.params3] at hA hval
  obtain ⟨v0, vs0, d0, ds0, p0, q0, hargs, hds, rfl, h0, r0⟩ := trodAll_cons hA
  obtain ⟨v1, vs1, d1, ds1, p1, q1, rfl, rfl, rfl, h1, r1⟩ := trodAll_cons r0
  obtain ⟨rfl, rfl, rfl⟩ := trodAll_nil r1
  obtain rfl : args = #[v0, v1] := by cases args; simp_all
  obtain ⟨rfl, _⟩ := trodVars_none hV
  subst hds
  have hk : Rows.uptoBulkAll ([d0, d1] ++ []) ≤ 1048576 := of_decide_eq_true hk0
  simp only [List.append_nil, Rows.uptoBulkAll] at hk
  obtain ⟨a0, s0⟩ := sl_of_arg (f := dStr) (k := 1) Try.underlying22 (by kernel_rfl) (by decide) (fun _ _ _ h => dStr.of_trod Try.underlying9 h) (hval 0 22 v0 rfl rfl) h0
  obtain ⟨a1, s1⟩ := sl_of_arg (f := dStrs) (k := 1) Try.underlying23 (by kernel_rfl) (by decide) (fun _ _ _ h => sl_of_trod (f := dStr) (k := 1) Try.underlying22 (by kernel_rfl) (by decide) (fun _ _ _ h => dStr.of_trod Try.underlying9 h) h) (hval 1 23 v1 rfl rfl) h1
  have b1 := strss_bulk Try.underlying23 Try.underlying22 (by kernel_rfl) s1 h1
  refine (walk a0 a1 v0 v1 W s0 s1 (by omega)).mono fun e W' ⟨he, hb⟩ => ?_
  subst he
  exact ⟨_, rfl, law_post laid (by kernel_rfl) rfl Try.underlying4 rfl rfl rfl rfl hW' hb⟩

theorem over : Rows.modulesCycleRealUptoRow.holds Try.pinned (Rows.OpenSpec.upto Rows.modulesCycleRealSpec) :=
  OpenClaim.holds_of_cond 3 Try.f3 rfl rfl rfl rfl rfl rfl rfl ⟨rfl, rfl, rfl, rfl, rfl⟩ rfl rfl rfl rfl rfl (by kernel_rfl) Try.func3 (by kernel_rfl)
    (of_decide_eq_true (by kernel_rfl)) (by unfold Func.isWrapper; first | (rw [if_pos (by decide +kernel)]; kernel_rfl) | (rw [if_neg (by decide +kernel)]; exact ⟨rfl, rfl⟩))
    (fun os started H enc _ F => lifted os started H enc F)

theorem proved : Rows.ModulesCycleRealUptoSaid :=
  over
#print axioms proved
end Go.Proofs.Ytldflgianmmaeaa.modulesCycleReal
