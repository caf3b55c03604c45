/- modules.reaches: what it answers. -/
import Derived.Test.YtldflgianmmaeaaCycB
import Derived.Test.YtldflgianmmaeaaSeq
import Derived.Test.YtldflgianmmaeaaSlices
namespace Go.Proofs.Ytldflgianmmaeaa
open Go.RowKit Go.Shelf Go.Sort

theorem strs_news {W : World} {F : Nat → Prop} : ∀ (l : List Bt) (news : List Value), RpAll W F (l.map dStr) news → news = l.map Value.string
  | [], news, h => by simp only [List.map_nil, RpAll] at h; simpa using h
  | x :: l, news, h => by
    rw [List.map_cons, rpAll_cons] at h
    obtain ⟨a, b, rfl, h1, h2⟩ := h
    have h1' : a = [Value.string x] := (rp_str.1 h1).1
    rw [h1', strs_news l b h2]
    rfl
/-- A row of the call's own, as a list. -/
theorem own_strs {W : World} {base : Nat} {v : Value} {l : List Bt} (h : W.ownsRow base 9 1 v l.length (l.map Value.string)) (hs : ∀ y ∈ l, y.size ≤ maxLen) : Sl W (fun b => base ≤ b) dStr l v :=
  Sl.of_own (F := fun _ => False) h rfl (rp_strs W l hs _) (fun _ h => h.elim) (fun b hb => (h.lt b hb).1)
theorem Sl.sizes {W : World} {F : Nat → Prop} {l : List Bt} {v : Value} (h : Sl W F dStr l v) : ∀ y ∈ l, y.size ≤ maxLen := fun y hy => by
  obtain ⟨A, c, rfl, _⟩ := h.form
  obtain ⟨i, hi, rfl⟩ := List.getElem_of_mem hy
  obtain ⟨_, _, _, _, _, h6⟩ := dStr.get h hi
  exact h6
theorem flat_take (f : Bt → List Bt) (l : List Bt) (j : Nat) (h : j < l.length) : (l.take (j + 1)).flatMap f = (l.take j).flatMap f ++ f l[j] := by
  rw [List.take_succ_eq_append_getElem h, List.flatMap_append]; simp
theorem flat_take_le (f : Bt → List Bt) (l : List Bt) (j : Nat) : ((l.take j).flatMap f).length ≤ (l.flatMap f).length := by
  conv => rhs; rw [← List.take_append_drop j l, List.flatMap_append, List.length_append]
  omega

set_option maxRecDepth 100000 in
set_option maxHeartbeats 4000000 in
theorem reaches_any (N : List Bt) (I : List (List Bt)) (nv iv : Value) (x to : Bt) (k : Nat) (w : World) (hN : Sl w (· < w.heap.size) dStr N nv) (hI : Sl w (· < w.heap.size) dStrs I iv) (hok : Okm N I) (hx : x ∈ N) (hT : total I ≤ 1048576) (hk : k ≤ 20) :
    Calls Try.prog 19 #[nv, iv, .string x, .string to, .int .i64 k] w fun e w' => e = .returned (.bool (reachB N I to k [x])) ∧ Below w.heap.size w w' := by
  obtain ⟨i0, hi0, hz0, hz1, hz2⟩ := info_parts infoStr
  obtain ⟨A, c, rfl, hlc, hcm, _⟩ := hN.form
  obtain ⟨B, c', rfl, hmc, hcm', _⟩ := hI.form
  have h16 := hok.small
  have hxs := hN.sizes x hx
  have hNs := hN.sizes
  go_enter Try.func19, Try.ntmps19
  go_wp2_with fail
  obtain ⟨w0, hw0⟩ : ∃ w0, w.alloc (.cells #[.string x] 9) = w0 := ⟨_, rfl⟩
  have hb0 : Below w.heap.size w w0 := by rw [← hw0]; exact Below.alloc (Below.refl _ _) (Nat.le_refl _) _
  have hs0 : Sl w0 (· < w0.heap.size) dStr [x] (.slice (some ⟨w.heap.size, 0, none⟩) 1 1) := by
    rw [← hw0]
    exact sl_blk (l := [x]) (Blk.new w 9 [_]) (by simpa using hxs) (by simp [maxLen]) _ (by simp)
  rw [hw0]
  clear hw0
  go_loopw [11, 18] (fun hv i wr => ∃ (j : Nat) (hs : List Bt), j ≤ k ∧ i = .int .i64 j ∧ Sl wr (· < wr.heap.size) dStr hs hv ∧ hs.Nodup ∧ (∀ y ∈ hs, y ∈ N) ∧ Below w.heap.size w wr ∧ Hid (reachB N I to k [x] = reachB N I to (k - j) hs)) (fun _ i _ => k - (intOf i).toNat)
  case atStart => exact ⟨0, [x], Nat.zero_le _, rfl, hs0, by simp, by simpa using hx, hb0, rfl⟩
  case round =>
    obtain ⟨j, hs, hj, rfl, hsl, hnd, hsub, hb, hno⟩ := hrel
    by_cases hlt : j < k
    · obtain ⟨A2, c2, rfl, _, hcm2, _⟩ := hsl.form
      have hl2 : hs.length ≤ 9223372036854775807 := by unfold maxLen at hcm2; omega
      have j0 : (0 : Int) ≤ (j : Int) := by omega
      have j1 : (j : Int) < (k : Int) := by omega
      have hfl := hok.flat_le hnd hsub
      have hNr := hN.below (fun _ h => h) hb
      have hIr := hI.below (fun _ h => h) hb
      go_wp2_with fail
      obtain ⟨wo, rfl⟩ : ∃ wo, wo = wr := ⟨_, rfl⟩
      go_loopw [12, 22] (fun mv i wi => ∃ q : Nat, q ≤ hs.length ∧ i = .int .i64 q ∧ wi.ownsRow wo.heap.size 9 1 mv ((hs.take q).flatMap (impOf N I)).length (((hs.take q).flatMap (impOf N I)).map Value.string) ∧ Below wo.heap.size wo wi) (fun _ i _ => hs.length - (intOf i).toNat)
      case atStart => exact ⟨0, Nat.zero_le _, rfl, World.ownsRow_nil _ _ _ _, Below.refl _ _⟩
      case round =>
        obtain ⟨q, hq, rfl, hown, hbi⟩ := hrel
        by_cases hql : q < hs.length
        · obtain ⟨g, off, rfl, _, d0, _⟩ := dStr.get (hsl.later hbi) hql
          have hmem := hsub _ (List.getElem_mem hql)
          obtain ⟨i, hi, e1, e2⟩ := hok.imp_at hmem
          have HIx := Lib.hid (strIndex N hs[q] _ _ wr (hNr.later hbi))
          rw [e1] at HIx
          obtain ⟨g2, off2, lv, rfl, _, d2, hlv⟩ := dStrs.get (hIr.later hbi) hi
          have HT := Lib.hid (flat_take (impOf N I) hs q hql)
          have hle := flat_take_le (impOf N I) hs (q + 1)
          rw [HT.out, List.length_append] at hle
          obtain ⟨y, hy⟩ : ∃ y, hs[q] = y := ⟨_, rfl⟩
          rw [hy] at HIx HT d0 e2 hle
          obtain ⟨D0, c4, rfl, _⟩ := hlv.form
          have HE2 := Lib.hid e2
          rw [e2] at hle
          obtain ⟨l, hl0⟩ : ∃ l, I[i] = l := ⟨_, rfl⟩
          rw [hl0] at hlv HE2 hle d2
          have q0 : (0 : Int) ≤ (q : Int) := by omega
          have q1 : (q : Int) < (hs.length : Int) := by omega
          have i1 : (0 : Int) ≤ (i : Int) := by omega
          have i2 : (i : Int) < (I.length : Int) := by omega
          have hbz := hbi.size
          obtain ⟨M, hM⟩ : ∃ M, (hs.take q).flatMap (impOf N I) = M := ⟨_, rfl⟩
          rw [hM] at hown hle HT
          clear hM e1 e2 hl0 hy hmem
          go_wp2_with fail
          with_reducible refine HIx.out.mono ?_
          rintro e w1 ⟨rfl, rfl⟩
          go_wp2_with (at_builtin; refine wpList_append_sl wr rfl _ _ 22 rfl wo.heap.size 9 i0 _ 1 16 Try.underlying22 hi0 hz0 hz1 hz2 rfl (by omega) _ M.length _ rfl hown dStr dStr.wide _ l _ _ _ rfl hlv (by unfold maxLen; omega) (by omega) hbz ?_; intro v' w2 news hnews hown2 hgrow _)
          go_roundw
          case rel => exact ⟨q + 1, by omega, by go_num, by rw [HT.out, HE2.out, List.length_append, List.map_append, ← strs_news _ _ hnews]; exact hown2, hbi.grown hgrow hbz (fun b hb => (hown.lt b hb).1)⟩
          case measure => simp [intOf]; omega
        · obtain rfl : q = hs.length := by omega
          rw [List.take_length] at hown
          have hRm : ∀ y ∈ hs.flatMap (impOf N I), y ∈ N := fun y hy => by
            obtain ⟨z, hz, hy⟩ := List.mem_flatMap.1 hy
            exact hok.imp_in z (hsub z hz) y hy
          have q1 : ¬ (hs.length : Int) < (hs.length : Int) := by omega
          have hst : reachB N I to (k - j) hs = (isIn (normB (hs.flatMap (impOf N I))) to || reachB N I to (k - (j + 1)) (normB (hs.flatMap (impOf N I)))) := by
            rw [show k - j = (k - (j + 1)) + 1 by omega]; rfl
          have HR := Lib.hid (hno.out.trans hst)
          obtain ⟨M, hM⟩ : ∃ M, hs.flatMap (impOf N I) = M := ⟨_, rfl⟩
          rw [hM] at hown HR hRm hfl
          obtain ⟨zs, hzs⟩ : ∃ zs, ((M.map (·.data.toList)).mergeSort fun x y => decide (x ≤ y)) = zs := ⟨_, rfl⟩
          have hzl : zs.length = M.length := by rw [← hzs]; simp
          have hzm : ∀ z ∈ zs, z.length ≤ maxLen := fun z hz => by
            rw [← hzs, List.mem_mergeSort] at hz
            obtain ⟨y, hy, rfl⟩ := List.mem_map.1 hz
            have := hNs y (hRm y hy)
            rwa [Lib.size_eq] at this
          have hcm3 : ∀ x, x ∈ Lib.compact zs → x ∈ zs := fun x hx => by
            have h1 : x ∈ norm (M.map (·.data.toList)) := by unfold norm; rw [hzs]; exact hx
            rw [← hzs, List.mem_mergeSort]; exact mem_norm.1 h1
          have HSo := Lib.hid (sortOwn wr wo.heap.size u12 M hown (by omega))
          rw [hzs] at HSo
          have hnB : (Lib.compact zs).map toB = normB M := by unfold normB norm; rw [hzs]
          have HNB := Lib.hid hnB
          have HCo := Lib.hid (fun (W1 : World) (h : W1.ownsRow wo.heap.size 9 1 u12 M.length (zs.map encStr)) => compactOwn W1 wo.heap.size u12 zs (by rw [hzl]; exact h) hzm hcm3)
          clear hno hst hzs hzl hzm hcm3 hnB hM
          go_wp2_with fail
          with_reducible refine HSo.out.mono ?_
          rintro e w1 ⟨rfl, hg1, hown1⟩
          have HC1 := Lib.hid (HCo.out w1 hown1)
          go_wp2_with fail
          with_reducible refine HC1.out.mono ?_
          rintro e w2 ⟨u, rfl, hg2, hsl2⟩
          have b1 : Below wo.heap.size wo w1 := hbi.grown hg1 hbi.size (fun b hb => (hown.lt b hb).1)
          have b2 : Below wo.heap.size wo w2 := b1.grown hg2 b1.size (fun b hb => (hown1.lt b hb).1)
          rw [HNB.out] at hsl2
          have hbw2 : Below w.heap.size w w2 := hb.trans (b2.mono hb.size)
          have HCn := Lib.hid (strContains (normB M) to u _ w2 hsl2)
          have hsl3 := sl_lt hsl2
          have hnd2 := normB_nodup M
          have hsub2 : ∀ y ∈ normB M, y ∈ N := fun y hy => hRm y (mem_normB.1 hy)
          cases hq2 : (normB M).any (fun y => decide (to = y))
          · rw [hq2] at HCn
            have HE := Lib.hid (HR.out.trans (by unfold isIn; rw [hq2, Bool.false_or]))
            clear hq2
            go_wp2_with fail
            with_reducible refine HCn.out.mono ?_
            rintro e w3 ⟨rfl, rfl⟩
            go_wp2_with fail
            go_roundw
            case rel => exact ⟨j + 1, normB M, by omega, by go_num, hsl3, hnd2, hsub2, hbw2, HE.out⟩
            case measure => simp [intOf]; omega
          · rw [hq2] at HCn
            have HE := Lib.hid (HR.out.trans (by unfold isIn; rw [hq2, Bool.true_or]))
            clear hq2
            go_wp2_with fail
            with_reducible refine HCn.out.mono ?_
            rintro e w3 ⟨rfl, rfl⟩
            go_wp2_with fail
            go_ret
            exact ⟨ret_bool HE.out.symm, hbw2⟩
    · obtain rfl : j = k := by omega
      have j1 : ¬ (j : Int) < (j : Int) := by omega
      have HE := Lib.hid (hno.out.trans (by rw [Nat.sub_self]; first | done | rfl))
      go_wp2_with fail
      go_ret
      exact ⟨ret_bool HE.out.symm, hb⟩
end Go.Proofs.Ytldflgianmmaeaa
