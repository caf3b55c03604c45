/- ModulesTopological, where what it reads is of bulk at most 1048576: for all lists the law returns true: each module comes after those that it imports, and there is an order exactly if there is no cycle. Condition: the bound of the second form. -/
import Derived.Test.YtldflgianmmaeaaTopOrder
import Derived.Test.YtldflgianmmaeaaCycCycle
import Derived.Test.YtldflgianmmaeaaBulkStrs
import Derived.JoinedCond
namespace Go.Proofs.Ytldflgianmmaeaa
open Go.RowKit

def sA : ByteArray := ⟨#[65]⟩
theorem first_order {out : List Nat} (h : Topo [sA] [[sA]] out) (hl : out.length = [sA].length) : False := by
  cases out with
  | nil => simp at hl
  | cons i r =>
    have hi := h.lt i (by simp)
    have h1 := h.dep 0 i rfl sA (by
      have : i = 0 := by simpa using hi
      subst this; simp)
    simp [nms] at h1
theorem own_shape {w : World} {base : Nat} {e : TypeId} {k n : Nat} {v : Value} {xs : List Value} (h : w.ownsRow base e k v n xs) : ∃ A c, v = .slice A n c ∧ n ≤ c ∧ c ≤ maxLen := by
  rcases h.2 with ⟨rfl, rfl⟩ | ⟨g, cap, cur, rfl, _, _, h1, h2, _⟩
  · exact ⟨none, 0, rfl, Nat.le_refl _, by unfold maxLen; omega⟩
  · exact ⟨_, cap, rfl, h1, h2⟩
theorem chkM_ne8 (N : List Bt) (I : List (List Bt)) : chkM N I ≠ 8 := by
  unfold chkM
  repeat' split
  all_goals decide
end Go.Proofs.Ytldflgianmmaeaa

namespace Go.Proofs.Ytldflgianmmaeaa.modulesTopological
open Go.ChangeShapes Go.WideShapes Go.ChangeAt Go.RowKit Go.Shelf

theorem own : ownKnob Try.prog.godebug = none := by kernel_rfl

set_option maxRecDepth 100000 in
set_option maxHeartbeats 8000000 in
theorem walk (N : List Bt) (I : List (List Bt)) (nv iv : Value) (w : World) (hN : Sl w (· < w.heap.size) dStr N nv) (hI : Sl w (· < w.heap.size) dStrs I iv) (hT : total I ≤ 1048576) :
    Calls Try.prog 4 #[nv, iv] w fun e w' => e = .returned (.bool true) ∧ Below w.heap.size w w' := by
  obtain ⟨i0, hi0, hz0, hz1, hz2⟩ := info_parts infoStrO
  obtain ⟨A, c, rfl, hlc, hcm, _⟩ := hN.form
  obtain ⟨B, c', rfl, hmc, hcm', _⟩ := hI.form
  have hl : N.length ≤ 9223372036854775807 := by unfold maxLen at hcm; omega
  have hm : I.length ≤ 9223372036854775807 := by unfold maxLen at hcm'; omega
  go_enter Try.func4, Try.ntmps4
  go_wp2_with fail
  obtain ⟨g0, hg0⟩ : ∃ g0, w.heap.size = g0 := ⟨_, rfl⟩
  obtain ⟨W0, hW0⟩ : ∃ W0, ((w.alloc (.cells #[.string ⟨#[65]⟩] 9)).alloc (.cells #[.string ⟨#[65]⟩] 9)).alloc (.cells #[.slice (some ⟨w.heap.size + 1, 0, none⟩) 1 1] 22) = W0 := ⟨_, rfl⟩
  have b1 : Blk (w.alloc (.cells #[.string ⟨#[65]⟩] 9)) g0 9 [.string ⟨#[65]⟩] := by rw [← hg0]; exact Blk.new _ _ [_]
  have b2 : Blk ((w.alloc (.cells #[.string ⟨#[65]⟩] 9)).alloc (.cells #[.string ⟨#[65]⟩] 9)) (g0 + 1) 9 [.string ⟨#[65]⟩] := by
    have := Blk.new (w.alloc (.cells #[.string ⟨#[65]⟩] 9)) 9 [.string ⟨#[65]⟩]
    simpa [hg0] using this
  have b4 : Blk W0 (g0 + 1 + 1) 22 [.slice (some ⟨g0 + 1, 0, none⟩) 1 1] := by
    have := Blk.new ((w.alloc (.cells #[.string ⟨#[65]⟩] 9)).alloc (.cells #[.string ⟨#[65]⟩] 9)) 22 [.slice (some ⟨w.heap.size + 1, 0, none⟩) 1 1]
    rw [hW0] at this
    simpa [hg0] using this
  have a1 : Blk W0 g0 9 [.string ⟨#[65]⟩] := by rw [← hW0]; exact (b1.alloc _).alloc _
  have a2 : Blk W0 (g0 + 1) 9 [.string ⟨#[65]⟩] := by rw [← hW0]; exact b2.alloc _
  have hb0 : Below w.heap.size w W0 := by
    rw [← hW0]
    exact Below.alloc (Below.alloc (Below.alloc (Below.refl _ _) (Nat.le_refl _) _) (by simp) _) (by simp; omega) _
  clear b1 b2
  rw [hW0, hg0]
  have s1 : Sl W0 (· < W0.heap.size) dStr [sA] (.slice (some ⟨g0, 0, none⟩) 1 1) := sl_blk (l := [sA]) a1 (by decide) (by decide) _ a1.lt
  have s2 : Sl W0 (· < W0.heap.size) dStr [sA] (.slice (some ⟨g0 + 1, 0, none⟩) 1 1) := sl_blk (l := [sA]) a2 (by decide) (by decide) _ a2.lt
  have s3 : Sl W0 (· < W0.heap.size) dStrs [[sA]] (.slice (some ⟨g0 + 1 + 1, 0, none⟩) 1 1) := sls_blk (L := [[sA]]) b4 (by decide) _ b4.lt (by
    rw [List.map_cons, rpAll_cons]
    exact ⟨[_], [], rfl, s2, by simp [RpAll]⟩)
  have HA := Lib.hid (order_any [sA] [[sA]] _ _ W0 s1 s3)
  have hN0 := hN.below (fun _ h => h) hb0
  have hI0 := hI.below (fun _ h => h) hb0
  clear a1 a2 b4 s1 s2 s3 hW0
  with_reducible refine HA.out.mono ?_
  rintro e W1 ⟨hb1, ⟨x1, hx1, hc1, rfl⟩ | ⟨_, _, rfl⟩ | ⟨out1, v1, _, ht1, hl1, _⟩⟩
  · exact absurd hc1.symm (by rw [show chkM [sA] [[sA]] = 0 from by decide]; exact hx1)
  rotate_left
  · exact (first_order ht1 hl1).elim
  have hbw1 := hb0.trans (hb1.mono hb0.size)
  have hwz1 := hbw1.size
  have hN1 := (hN.below (fun _ h => h) hbw1).mono fun b hb => Nat.lt_of_lt_of_le hb hwz1
  have hI1 := (hI.below (fun _ h => h) hbw1).mono fun b hb => Nat.lt_of_lt_of_le hb hwz1
  have HO := Lib.hid (order_any N I _ _ W1 hN1 hI1)
  clear HA
  go_wp2_with fail
  with_reducible refine HO.out.mono ?_
  rintro e W2 ⟨hb2, hans⟩
  have hbw2 : Below w.heap.size w W2 := hbw1.trans (hb2.mono hwz1)
  have hwz2 := hbw2.size
  have hN2 := (hN.below (fun _ h => h) hbw2).mono fun b hb => Nat.lt_of_lt_of_le hb hwz2
  have hI2 := (hI.below (fun _ h => h) hbw2).mono fun b hb => Nat.lt_of_lt_of_le hb hwz2
  have HCy := Lib.hid (cycle_any N I _ _ W2 hN2 hI2 hT)
  clear HO
  rcases hans with ⟨x, hx, hcx, rfl⟩ | ⟨hz, hcy, rfl⟩ | ⟨out, v, hz, ht, hlen, rfl, hsl⟩
  · have h8 : x ≠ 8 := fun e => chkM_ne8 N I (hcx.trans e)
    have h8b : (x == 8) = false := by rw [beq_eq_false_iff_ne]; exact h8
    have hxb : (x != 0) = true := bne_iff_ne.2 hx
    have HX := Lib.hid hcx
    have HX0 := Lib.hid hx
    clear hcx hx h8
    go_wp2_with fail
    with_reducible refine HCy.out.mono ?_
    rintro e W3 ⟨hb3, ⟨x3, hx3, hc3, rfl⟩ | ⟨hc3, _, rfl⟩ | ⟨cy, ad, cp, hc3, _⟩⟩
    · obtain rfl : x3 = x := hc3.symm.trans HX.out
      clear hx3 hc3
      go_wp2_with fail
      go_ret
      exact ⟨ret_bool (by simp), hbw2.trans (hb3.mono hwz2)⟩
    · exact absurd (HX.out.symm.trans hc3) HX0.out
    · exact absurd (HX.out.symm.trans hc3) HX0.out
  · have HZ := Lib.hid hz
    have HC := Lib.hid hcy
    clear hz hcy
    go_wp2_with fail
    with_reducible refine HCy.out.mono ?_
    rintro e W3 ⟨hb3, ⟨x3, hx3, hc3, rfl⟩ | ⟨_, hc3, rfl⟩ | ⟨cy, ad, cp, hchk, hc3, rfl, hs3⟩⟩
    · exact absurd (hc3.symm.trans HZ.out) hx3
    · exact absurd hc3 HC.out
    · have hC := cycF_some (okm hchk).imp_in hc3
      have hpos := List.length_pos_iff.2 hC.ne
      have hp2 : (0 : Int) < (cy.length : Int) := by omega
      obtain ⟨_, c9, e9, h9, h8, _⟩ := hs3.form
      have hcl : cy.length ≤ 9223372036854775807 := by
        simp only [Value.slice.injEq] at e9
        unfold maxLen at h8; omega
      clear hC hc3 hchk e9 h9 h8 hpos
      go_wp2_with fail
      go_ret
      exact ⟨ret_bool (by simp; omega), hbw2.trans (hb3.mono hwz2)⟩
  · have hok := okm hz
    have h16 := hok.small
    have hno := ht.no_cyc hok hlen
    have HNo := Lib.hid hno
    have HZ := Lib.hid hz
    have HT := Lib.hid ht
    have HLen := Lib.hid hlen
    have HOk := Lib.hid hok
    have hIN := Lib.hid hok.len
    have hol : out.length ≤ 16 := by omega
    have hNs := Lib.hid hN.sizes
    obtain ⟨E0, ec, hE, hEl, hEc, _⟩ := hsl.form
    rw [List.length_map] at hE hEl
    subst hE
    clear hno hz ht hok hlen
    go_wp2_with fail
    with_reducible refine HCy.out.mono ?_
    rintro e W3 ⟨hb3, ⟨x3, hx3, hc3, rfl⟩ | ⟨_, hc3, rfl⟩ | ⟨cy, ad, cp, _, hc3, _⟩⟩
    · exact absurd (hc3.symm.trans HZ.out) hx3
    rotate_left
    · rw [HNo.out] at hc3; cases hc3
    have hbw3 := hbw2.trans (hb3.mono hwz2)
    have hsl3 := hsl.later hb3
    have hN3 := hN2.below (fun _ h => h) hb3
    have hI3 := hI2.below (fun _ h => h) hb3
    clear hc3 HNo HCy hsl
    obtain ⟨b, hb⟩ : ∃ b, W3.heap.size = b := ⟨_, rfl⟩
    have HBz := Lib.hid hb
    clear hb
    go_wp2_with fail
    go_loopw [11, 53] (fun sv i wr => ∃ j : Nat, j ≤ out.length ∧ i = .int .i64 j ∧ Below W3.heap.size W3 wr ∧ wr.ownsRow b 9 1 sv j ((nms N (out.take j)).map Value.string)) (fun _ i _ => out.length - (intOf i).toNat)
    case atStart => exact ⟨0, Nat.zero_le _, rfl, Below.refl _ _, World.ownsRow_nil _ _ _ _⟩
    case round =>
      obtain ⟨j, hj, rfl, hbr, hown⟩ := hrel
      by_cases hlt : j < out.length
      · obtain ⟨g, off, hadr, _, c0, _⟩ := dInt.get (hsl3.later hbr) (show j < (out.map fun i : Nat => (i : Int)).length by simpa using hlt)
        obtain rfl := hadr
        rw [List.getElem_map] at c0
        obtain ⟨i, hi⟩ : ∃ i, out[j] = i := ⟨_, rfl⟩
        rw [hi] at c0
        have hji : out[j]? = some i := by rw [List.getElem?_eq_getElem hlt, hi]
        have hiN := HT.out.lt i (List.mem_of_getElem? hji)
        have hiI : i < I.length := by have := hIN.out; omega
        have hdep := HT.out.dep j i hji
        have hgd : I.getD i [] = I[i] := by rw [List.getD_eq_getElem?_getD, List.getElem?_eq_getElem hiI]; rfl
        rw [hgd] at hdep
        obtain ⟨g2, off2, lv, hadr2, _, c2, hlv⟩ := dStrs.get (hI3.later hbr) hiI
        obtain rfl := hadr2
        obtain ⟨g3, off3, hadr3, _, c3, s3⟩ := dStr.get (hN3.later hbr) hiN
        obtain rfl := hadr3
        have hnm := nm_get hiN
        have hTk : nms N (out.take (j + 1)) = nms N (out.take j) ++ [N[i]] := by
          unfold nms
          rw [List.take_succ_eq_append_getElem hlt, List.map_append, hi, List.map_singleton, hnm]
        obtain ⟨x, hx⟩ : ∃ x, N[i] = x := ⟨_, rfl⟩
        obtain ⟨l, hl0⟩ : ∃ l, I[i] = l := ⟨_, rfl⟩
        rw [hx] at c3 s3 hTk
        rw [hl0] at hlv hdep
        obtain ⟨D1, c4, rfl, _, hc4, _⟩ := hlv.form
        have hsm : ∀ y ∈ nms N (out.take j), y.size ≤ maxLen := fun y hy => by
          obtain ⟨k, hk, rfl⟩ := List.mem_map.1 hy
          rw [nm_get (HT.out.lt k (List.mem_of_mem_take hk))]
          exact hNs.out _ (List.getElem_mem _)
        have hlen : (nms N (out.take j)).length = j := by simp [nms]; omega
        have hso : Sl wr (fun b' => b ≤ b') dStr (nms N (out.take j)) _ := own_strs (by rw [hlen]; exact hown) hsm
        obtain ⟨P0, pc, hP, _⟩ := hso.form
        rw [hlen] at hP
        subst hP
        have HCo := Lib.hid (fun m => strContains (nms N (out.take j)) m _ _ wr hso)
        have HD := Lib.hid hdep
        have HTk := Lib.hid hTk
        have HLV := Lib.hid hlv
        have HOw := Lib.hid hown
        have j0 : (0 : Int) ≤ (j : Int) := by omega
        have j1 : (j : Int) < (out.length : Int) := by omega
        have i1 : (0 : Int) ≤ (i : Int) := by omega
        have i2 : (i : Int) < (I.length : Int) := by omega
        have i3 : (i : Int) < (N.length : Int) := by omega
        have hll : l.length ≤ 9223372036854775807 := by unfold maxLen at hc4; omega
        have hbz2 := hbr.size
        have HB2 := Lib.hid hbr
        clear hi hji hgd hnm hTk hx hl0 hdep hsm hlen hlv hown hbr hso
        go_wp2_with fail
        obtain ⟨wo, rfl⟩ : ∃ wo, wo = wr := ⟨_, rfl⟩
        go_loop [15, 62] (fun _ i => ∃ q : Nat, q ≤ l.length ∧ i = .int .i64 q) (fun _ i => l.length - (intOf i).toNat)
        case atStart => exact ⟨0, Nat.zero_le _, rfl⟩
        case round =>
          obtain ⟨q, hq, rfl⟩ := hrel
          by_cases hql : q < l.length
          · obtain ⟨g5, off5, hadr5, _, e0, _⟩ := dStr.get HLV.out hql
            obtain rfl := hadr5
            have HC1 := Lib.hid (HCo.out l[q])
            have hin := isIn_iff.2 (HD.out _ (List.getElem_mem hql))
            unfold isIn at hin
            rw [hin] at HC1
            obtain ⟨m, hm⟩ : ∃ m, l[q] = m := ⟨_, rfl⟩
            rw [hm] at e0 HC1
            have q0 : (0 : Int) ≤ (q : Int) := by omega
            have q1 : (q : Int) < (l.length : Int) := by omega
            clear hm hin
            go_wp2_with fail
            with_reducible refine HC1.out.mono ?_
            rintro e w4 ⟨rfl, rfl⟩
            go_wp2_with fail
            go_round
            case rel => exact ⟨q + 1, by omega, by go_num⟩
            case measure => simp [intOf]; omega
          · have q1 : ¬ (q : Int) < (l.length : Int) := by omega
            have hown2 := HOw.out
            have hbl := HBz.out
            go_wp2_with (at_builtin; refine wpList_append_lies _ rfl _ _ 22 rfl b 9 i0 _ 1 16 Try.underlying22 hi0 hz0 hz1 hz2 rfl (by omega) _ j _ rfl (World.ownsRow.alloc hown2 _) ⟨wo.heap.size, 0, none⟩ 1 1 [.string x] rfl rfl (World.news_of_block (cs := #[.string x]) (t := 9) (fr := (0, 0)) (heap_alloc_new _ _)) (by simp [Value.oneCell']) (by omega) (by unfold maxLen; omega) (by omega) (by simp; omega) (wo.heap.size + 1) (by simp) ?_; intro gg cap w2 hown1 hgrow hat hlt1; have hk1 : Below W3.heap.size wo w2 := ((Keeps.refl (fun j => b ≤ j) wo).alloc _ |>.grown hgrow (fun j hj _ => (hown2.lt j hj).1)).below (fun i hi => by have h := HBz.out; omega) hbz2)
            go_roundw
            case rel => exact ⟨j + 1, by omega, by go_num, HB2.out.trans hk1, by rw [HTk.out, List.map_append]; exact hown1⟩
            case measure => simp [intOf]; omega
      · have j1 : ¬ (j : Int) < (out.length : Int) := by omega
        obtain rfl : j = out.length := by omega
        obtain ⟨P0, pc, rfl, _⟩ := own_shape hown
        have hLe : (out.length : Int) = (N.length : Int) := by have := HLen.out; omega
        have HLe := Lib.hid hLe
        clear hLe hown
        go_wp2_with fail
        go_ret
        subst hg0
        exact ⟨ret_bool (by have := HLe.out; simp; omega), hbw3.trans (hbr.mono hbw3.size)⟩

theorem laid : laidOutB Try.prog = true := by kernel_rfl

set_option maxRecDepth 100000 in
theorem lifted (os : Os) (started : os.Started) (H : Type) (enc : TypeId × Value → H) (F : Stop.Interp) :
    ReturnsInHanded {} Try.checked os 4 .any ((Rows.OpenSpec.upto Rows.modulesTopologicalSpec).pre6 enc Try.prog Try.f4 Rows.modulesTopologicalUptoRow.domain false) (((Rows.OpenSpec.upto Rows.modulesTopologicalSpec).at F).post enc Try.prog Try.f4 false true false false) := by
  refine returnsInHanded_of_cond (C := Try.checked) (s := Rows.OpenSpec.upto Rows.modulesTopologicalSpec) (k := Rows.uptoSmall) rfl own started (by kernel_rfl) Try.func4
    (OpenSpec.witness (enc := enc) (C := Try.checked) (s := Rows.OpenSpec.upto Rows.modulesTopologicalSpec) (k := Rows.uptoSmall) rfl false ⟨#[], #[.slice none 0 0, .slice none 0 0], []⟩ 8 (by kernel_rfl) (by kernel_rfl) (by kernel_rfl)
      (x := ([.nil, .nil], [], [])) (by kernel_rfl) rfl (by kernel_rfl)) ?_
  intro W base args ds gs before hval0 hW _ hk0 _
  have hval : ∀ (j : Nat) t v, Try.f4.params[j]? = some t → args[j]? = some v → Value.okWide Try.prog W .any base t v := hval0
  have hW' := hW
  obtain ⟨p, q, hA0, hV, hbef, hfz, hnd⟩ := hW
  have hA : DataW.TrodAll enc Try.prog W 0 (fun _ => true) true Try.f4.params.toList args.toList ds p := hA0
  rw [Try.params4] at hA hval
  obtain ⟨v0, vs0, d0, ds0, p0, q0, hargs, hds, rfl, h0, r0⟩ := trodAll_cons hA
  obtain ⟨v1, vs1, d1, ds1, p1, q1, rfl, rfl, rfl, h1, r1⟩ := trodAll_cons r0
  obtain ⟨rfl, rfl, rfl⟩ := trodAll_nil r1
  obtain rfl : args = #[v0, v1] := by cases args; simp_all
  obtain ⟨rfl, _⟩ := trodVars_none hV
  subst hds
  have hk : Rows.uptoBulkAll ([d0, d1] ++ []) ≤ 1048576 := of_decide_eq_true hk0
  simp only [List.append_nil, Rows.uptoBulkAll] at hk
  obtain ⟨a0, s0⟩ := sl_of_arg (f := dStr) (k := 1) Try.underlying22 (by kernel_rfl) (by decide) (fun _ _ _ h => dStr.of_trod Try.underlying9 h) (hval 0 22 v0 rfl rfl) h0
  obtain ⟨a1, s1⟩ := sl_of_arg (f := dStrs) (k := 1) Try.underlying23 (by kernel_rfl) (by decide) (fun _ _ _ h => sl_of_trod (f := dStr) (k := 1) Try.underlying22 (by kernel_rfl) (by decide) (fun _ _ _ h => dStr.of_trod Try.underlying9 h) h) (hval 1 23 v1 rfl rfl) h1
  have b1 := strss_bulk Try.underlying23 Try.underlying22 (by kernel_rfl) s1 h1
  refine (walk a0 a1 v0 v1 W s0 s1 (by omega)).mono fun e W' ⟨he, hb⟩ => ?_
  subst he
  exact ⟨_, rfl, law_post laid (by kernel_rfl) rfl Try.underlying4 rfl rfl rfl rfl hW' hb⟩

theorem over : Rows.modulesTopologicalUptoRow.holds Try.pinned (Rows.OpenSpec.upto Rows.modulesTopologicalSpec) :=
  OpenClaim.holds_of_cond 4 Try.f4 rfl rfl rfl rfl rfl rfl rfl ⟨rfl, rfl, rfl, rfl, rfl⟩ rfl rfl rfl rfl rfl (by kernel_rfl) Try.func4 (by kernel_rfl)
    (of_decide_eq_true (by kernel_rfl)) (by unfold Func.isWrapper; first | (rw [if_pos (by decide +kernel)]; kernel_rfl) | (rw [if_neg (by decide +kernel)]; exact ⟨rfl, rfl⟩))
    (fun os started H enc _ F => lifted os started H enc F)

theorem proved : Rows.ModulesTopologicalUptoSaid :=
  over
#print axioms proved
end Go.Proofs.Ytldflgianmmaeaa.modulesTopological
