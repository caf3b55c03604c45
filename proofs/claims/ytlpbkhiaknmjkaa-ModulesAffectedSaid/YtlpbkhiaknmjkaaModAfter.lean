/- modules.After: the walk. -/
import Derived.Test.YtlpbkhiaknmjkaaModOut
import Derived.Test.YtlpbkhiaknmjkaaModSort
import Derived.Deep.LoopGhost
namespace Go.Proofs.Ytlpbkhiaknmjkaa
open Go.RowKit Go.Shelf Go.Sort




theorem infoStr : (Try.prog.info? 9).map (fun i => (i.zero, i.size, i.bytes)) = some (some (.string ⟨#[]⟩), 1, 16) := by kernel_rfl

set_option maxHeartbeats 400000 in
theorem clo (W : World) (b : Nat) (v : Value) (out : List ByteArray) (F : Nat → Prop) (hb : Blk W b 22 [v]) (hs : Sl W F dStr out v) (x : ByteArray) :
    Calls Try.prog 10 (#[.string x] ++ #[.pointer (some ⟨b, 0, none⟩)]) W fun e w' => e = .returned (.bool (isIn out x)) ∧ W = w' := by
  have c0 := hb.cell (i := 0) rfl
  have HC := Lib.hid (strContains out x v F W hs)
  change Calls Try.prog 10 #[.string x, .pointer (some ⟨b, 0, none⟩)] W _
  obtain ⟨A, c, rfl, _⟩ := hs.form
  clear hs hb
  go_enter Try.func10, Try.ntmps10
  go_wp2_with fail
  with_reducible refine HC.out.mono ?_
  rintro e w1 ⟨rfl, rfl⟩
  go_wp2_with fail
  go_ret
  exact ⟨rfl, rfl⟩

set_option maxRecDepth 100000 in
set_option maxHeartbeats 4000000 in
theorem after_walk (N Ch : List ByteArray) (I : List (List ByteArray)) (nv iv cv : Value) (w : World) (hN : Sl w (· < w.heap.size) dStr N nv) (hI : Sl w (· < w.heap.size) dStrs I iv) (hCh : Sl w (· < w.heap.size) dStr Ch cv)
    (hsz : Ch.length * 16 ≤ 140737488351232) :
    Calls Try.prog 4 #[nv, iv, cv] w fun e w' => Below w.heap.size w w' ∧
      ((∃ c, c ≠ 0 ∧ (chkM N I ≠ 0 ∨ ¬ ∀ x ∈ Ch, x ∈ N) ∧ e = .returned (.tuple #[.slice none 0 0, .int .i64 c])) ∨
       (∃ out v, chkM N I = 0 ∧ Pl N I Ch out ∧ Closed N I out ∧ e = .returned (.tuple #[v, .int .i64 0]) ∧ Sl w' (fun b => w.heap.size ≤ b) dStr (normB out) v)) := by
  obtain ⟨i0, hi0, hz0, hz1, hz2⟩ := info_parts infoStr
  have HCk := Lib.hid (check_any N I nv iv _ w hN hI)
  obtain ⟨A, c, rfl, hlc, hcm, _⟩ := hN.form
  obtain ⟨B, c', rfl, hmc, hcm', _⟩ := hI.form
  obtain ⟨C, c'', rfl, hmc2, hcm2, _⟩ := hCh.form
  have hl : N.length ≤ 9223372036854775807 := by unfold maxLen at hcm; omega
  have hm : I.length ≤ 9223372036854775807 := by unfold maxLen at hcm'; omega
  by_cases hok : chkM N I = 0
  · have h16 : N.length ≤ 16 := by unfold chkM at hok; split at hok <;> omega
    have hIN : I.length = N.length := by
      unfold chkM at hok
      split at hok
      · omega
      · split at hok
        · omega
        · rename_i h; simpa using h
    rw [hok] at HCk
    have HIN := Lib.hid hIN
    clear hIN
    go_enter Try.func4, Try.ntmps4
    go_wp2_with fail
    with_reducible refine HCk.out.mono ?_
    rintro e w1 ⟨rfl, rfl⟩
    go_wp2_with fail
    obtain ⟨b, hbdef⟩ : ∃ b, w.heap.size = b := ⟨_, rfl⟩
    obtain ⟨wa, hwa⟩ : ∃ wa, w.alloc (.cells #[.slice none 0 0] 22) = wa := ⟨_, rfl⟩
    have hO : Out w wa b (.slice none 0 0) [] := by
      subst hwa hbdef
      exact ⟨Blk.new _ _ [_], World.ownsRow_nil _ _ _ _, by simp, Nat.le_refl _, Below.alloc (Below.refl _ _) (Nat.le_refl _) _⟩
    rw [hwa, hbdef]
    go_loopw [23] (fun i wr => ∃ k : Nat, k ≤ Ch.length ∧ i = .int .i64 k ∧ ∃ v, Out w wr b v (Ch.take k) ∧ ∀ x ∈ Ch.take k, x ∈ N) (fun i _ => Ch.length - (intOf i).toNat)
    case atStart => exact ⟨0, Nat.zero_le _, rfl, _, hO, by simp⟩
    case round =>
      obtain ⟨k, hk, rfl, v, hO, hin⟩ := hrel
      by_cases hlt : k < Ch.length
      · obtain ⟨g, off, rfl, _, c0, s0⟩ := dStr.get (hCh.below (fun _ h => h) hO.later) hlt
        have HCo := Lib.hid (strContains N Ch[k] _ _ wr (hN.below (fun _ h => h) hO.later))
        have k0 : (0 : Int) ≤ (k : Int) := by omega
        have k1 : (k : Int) < (Ch.length : Int) := by omega
        cases hq : N.any (fun y => decide (Ch[k] = y))
        · rw [hq] at HCo
          have hb6 := Lib.hid (show ¬ ∀ x ∈ Ch, x ∈ N from fun h => isIn_no.1 hq (h _ (List.getElem_mem hlt)))
          go_wp2_with fail
          with_reducible refine HCo.out.mono ?_
          rintro e w1 ⟨rfl, rfl⟩
          go_wp2_with fail
          go_ret2
          exact ⟨hO.later, .inl ⟨6, by decide, .inr hb6.out, rfl⟩⟩
        · rw [hq] at HCo
          have hmem : Ch[k] ∈ N := isIn_iff.1 hq
          have hlen : (Ch.take k).length = k := by rw [List.length_take]; omega
          have hTk : Ch.take (k + 1) = Ch.take k ++ [Ch[k]] := List.take_succ_eq_append_getElem hlt
          have hcell := hO.blk.cell (i := 0) rfl
          have hown := hO.own
          have hblk := hO.blk
          have hbz := hO.blk.lt
          rw [hlen] at hown
          obtain ⟨x, hx⟩ : ∃ x, Ch[k] = x := ⟨_, rfl⟩
          rw [hx] at c0 HCo hmem hTk s0
          have HT := Lib.hid hTk
          clear hTk hlen hx hq
          go_wp2_with fail
          with_reducible refine HCo.out.mono ?_
          rintro e w1 ⟨rfl, rfl⟩
          go_wp2_with (at_builtin; refine wpList_append_lies _ rfl _ _ 22 rfl (b + 1) 9 i0 _ 1 16 Try.underlying22 hi0 hz0 hz1 hz2 rfl (by omega) v k _ rfl (World.ownsRow.alloc hown _) ⟨wr.heap.size, 0, none⟩ 1 1 [.string x] rfl rfl (World.news_of_block (cs := #[.string x]) (t := 9) (fr := (0, 0)) (heap_alloc_new _ _)) (by simp [Value.oneCell']) (by omega) (by unfold maxLen; omega) (by omega) (by simp; omega) (wr.heap.size + 1) (by simp) ?_; intro gg cap w2 hown1 hgrow hat hlt1; have hk1 : Keeps (fun j => b + 1 ≤ j) wr w2 := (Keeps.refl (fun j => b + 1 ≤ j) wr).alloc _ |>.grown hgrow (fun j hj _ => (hown.lt j hj).1); have hb2 := hblk.keeps hk1 (by omega); have d0 := hb2.cell (i := 0) rfl; have d1 := hb2.free 0)
          go_roundw
          case rel => exact ⟨k + 1, by omega, by go_num, _, by rw [HT.out]; exact hO.push hk1 (by rw [List.length_take, Nat.min_eq_left hk]; exact hown1) s0, fun y hy => by
            rw [HT.out] at hy
            rcases List.mem_append.1 hy with hy | hy
            · exact hin y hy
            · rw [List.mem_singleton.1 hy]; exact hmem⟩
          case measure => simp [intOf]; omega
      · have k1 : ¬ (k : Int) < (Ch.length : Int) := by omega
        obtain rfl : k = Ch.length := by omega
        rw [List.take_length] at hO hin
        go_wp2_with fail
        have hP : Pl N I Ch Ch := ⟨fun _ h => h, hin, fun _ _ h => h, by have := cnt_le N Ch; omega⟩
        go_loopg [12] (2 * N.length + 1) (fun q v12 wr => ∃ ag : Bool, ∃ v out, v12 = .bool ag ∧ Out w wr b v out ∧ Pl N I Ch out ∧ (ag = false → Closed N I out) ∧ 2 * cnt N out + (if ag then 1 else 0) ≤ q)
        case atStart => exact ⟨true, v, Ch, rfl, hO, hP, (fun h => nomatch h), by have := cnt_le N Ch; simp; omega⟩
        case round =>
          obtain ⟨ag, v2, out, rfl, hO2, hP2, hcl, hq⟩ := hrel
          cases ag with
          | false =>
            have hClo := hcl rfl
            have hown := hO2.own
            have hblk := hO2.blk
            have hlen := hP2.len
            obtain ⟨zs, hzs⟩ : ∃ zs, ((out.map (·.data.toList)).mergeSort fun x y => decide (x ≤ y)) = zs := ⟨_, rfl⟩
            have hzl : zs.length = out.length := by rw [← hzs]; simp
            have hzm : ∀ z ∈ zs, z.length ≤ maxLen := fun z hz => by
              rw [← hzs, List.mem_mergeSort] at hz
              obtain ⟨y, hy, rfl⟩ := List.mem_map.1 hz
              have := hO2.small y hy
              rwa [Lib.size_eq] at this
            have hcm3 : ∀ x, x ∈ Lib.compact zs → x ∈ zs := fun x hx => by
              have h1 : x ∈ norm (out.map (·.data.toList)) := by unfold norm; rw [hzs]; exact hx
              rw [← hzs, List.mem_mergeSort]; exact mem_norm.1 h1
            have HSo := Lib.hid (sortOwn wr (b + 1) v2 out hown (by have := cnt_le N out; omega))
            rw [hzs] at HSo
            have hnB : (Lib.compact zs).map toB = normB out := by unfold normB norm; rw [hzs]
            have HNB := Lib.hid hnB
            have HCo := Lib.hid (fun (W1 : World) (h : W1.ownsRow (b + 1) 9 1 v2 out.length (zs.map encStr)) => compactOwn W1 (b + 1) v2 zs (by rw [hzl]; exact h) hzm hcm3)
            have c0 := hblk.cell (i := 0) rfl
            obtain ⟨A3, c3, hv3, _⟩ := hO2.sl.form
            clear hcl hq hzs hzl hzm hcm3 hnB hlen
            subst hv3
            go_wp2_with fail
            with_reducible refine HSo.out.mono ?_
            rintro e w1 ⟨rfl, hg1, hown1⟩
            have hk1 : Keeps (fun j => b + 1 ≤ j) wr w1 := (Keeps.refl (fun j => b + 1 ≤ j) wr).grown hg1 (fun j hj _ => (hown.lt j hj).1)
            have hb1 := hblk.keeps hk1 (by omega)
            have c1 := hb1.cell (i := 0) rfl
            have HC1 := Lib.hid (HCo.out w1 hown1)
            go_wp2_with fail
            with_reducible refine HC1.out.mono ?_
            rintro e w2 ⟨u, rfl, hg2, hsl⟩
            go_wp2_with fail
            go_ret2
            have hk2 : Keeps (fun j => b + 1 ≤ j) w1 w2 := (Keeps.refl (fun j => b + 1 ≤ j) w1).grown hg2 (fun j hj _ => (hown1.lt j hj).1)
            have hlow := hO2.low
            have hwz := hO2.later.size
            have l1 : Below w.heap.size wr w1 := hk1.below (fun j hj => by omega) hwz
            have l2 : Below w.heap.size w1 w2 := hk2.below (fun j hj => by omega) (Nat.le_trans hwz l1.size)
            refine ⟨(hO2.later.trans l1).trans l2, .inr ⟨out, u, hok, hP2, hClo, rfl, ?_⟩⟩
            rw [← HNB.out]
            exact hsl.mono (fun j hj => by omega)
          | true =>
            have hq1 : 2 * cnt N out + 1 ≤ gk := by simpa using hq
            obtain ⟨q', rfl⟩ : ∃ q', gk = q' + 1 := ⟨gk - 1, by omega⟩
            clear hcl hq
            go_wp2_with fail
            go_loopw [12, 39] (fun v12 i wi => ∃ k : Nat, ∃ ag : Bool, ∃ v3 out3, k ≤ N.length ∧ i = .int .i64 k ∧ v12 = .bool ag ∧ Out w wi b v3 out3 ∧ Pl N I Ch out3 ∧
              (ag = false → out3 = out ∧ ∀ (j : Nat) x l, j < k → N[j]? = some x → I[j]? = some l → x ∉ out → ∀ m ∈ l, m ∉ out) ∧ (ag = true → cnt N out3 < cnt N out)) (fun _ i _ => N.length - (intOf i).toNat)
            case atStart => exact ⟨0, false, v2, out, Nat.zero_le _, rfl, rfl, hO2, hP2, fun _ => ⟨rfl, fun j x l hj => by omega⟩, (fun h => nomatch h)⟩
            case round =>
              obtain ⟨k, ag, v3, out3, hk, rfl, rfl, hO3, hP3, hag0, hag1⟩ := hrel
              by_cases hlt : k < N.length
              · obtain ⟨g, off, rfl, _, c0, s0⟩ := dStr.get (hN.below (fun _ h => h) hO3.later) hlt
                have hltI : k < I.length := by have := HIN.out; omega
                obtain ⟨g2, off2, lv, rfl, _, c2, hlv⟩ := dStrs.get (hI.below (fun _ h => h) hO3.later) hltI
                have hjx : N[k]? = some N[k] := List.getElem?_eq_getElem hlt
                have hjl : I[k]? = some I[k] := List.getElem?_eq_getElem hltI
                obtain ⟨x, hx⟩ : ∃ x, N[k] = x := ⟨_, rfl⟩
                obtain ⟨l, hl0⟩ : ∃ l, I[k] = l := ⟨_, rfl⟩
                rw [hx] at c0 s0 hjx
                rw [hl0] at hlv hjl
                obtain ⟨D0, c4, rfl, _⟩ := hlv.form
                have HCo := Lib.hid (strContains out3 x v3 _ wr hO3.sl)
                have hcell := hO3.blk.cell (i := 0) rfl
                have k0 : (0 : Int) ≤ (k : Int) := by omega
                have k1 : (k : Int) < (N.length : Int) := by omega
                have k2 : (k : Int) < (I.length : Int) := by omega
                obtain ⟨A3, c3, rfl, _⟩ := hO3.sl.form
                clear hx hl0
                cases hq1 : isIn out3 x
                · have hxn := isIn_no.1 hq1
                  have hb1 := hO3.blk
                  have hs1 := hO3.sl
                  have eg : Enters Try.prog 10 := enters_of Try.func10 (by kernel_rfl) rfl
                  have HCf := Lib.hid (strContainsFunc l _ _ wr hlv 10 #[.pointer (some ⟨b, 0, none⟩)] (isIn out3) eg (fun y => clo wr b _ out3 _ hb1 hs1 y))
                  unfold isIn at hq1
                  rw [hq1] at HCo
                  clear hq1 hb1 hs1 eg
                  cases hq2 : l.any (isIn out3)
                  · rw [hq2] at HCf
                    have hmn : ∀ m ∈ l, m ∉ out3 := fun m hm => isIn_no.1 (by simpa using List.any_eq_false.1 hq2 m hm)
                    clear hq2
                    go_wp2_with fail
                    with_reducible refine HCo.out.mono ?_
                    rintro e w1 ⟨rfl, rfl⟩
                    go_wp2_with fail
                    with_reducible refine HCf.out.mono ?_
                    rintro e w1 ⟨rfl, rfl⟩
                    go_wp2_with fail
                    go_roundw
                    case rel =>
                      refine ⟨k + 1, ag, _, out3, by omega, by go_num, rfl, hO3, hP3, fun ha => ⟨(hag0 ha).1, fun j x' l' hj hx' hl' hno => ?_⟩, hag1⟩
                      rcases Nat.lt_or_ge j k with h | h
                      · exact (hag0 ha).2 j x' l' h hx' hl' hno
                      · have : j = k := by omega
                        subst this
                        rw [hjl] at hl'
                        obtain rfl := Option.some.inj hl'
                        rw [← (hag0 ha).1]
                        exact hmn
                    case measure => simp [intOf]; omega
                  · rw [hq2] at HCf
                    have hP4 := hP3.push hjx hjl hxn hq2
                    have hroom := hP3.room (List.mem_of_getElem? hjx) hxn
                    have hcp := cnt_push (List.mem_of_getElem? hjx) hxn
                    have hown := hO3.own
                    have hblk := hO3.blk
                    have hbz := hO3.blk.lt
                    clear hq2
                    go_wp2_with fail
                    with_reducible refine HCo.out.mono ?_
                    rintro e w1 ⟨rfl, rfl⟩
                    go_wp2_with fail
                    with_reducible refine HCf.out.mono ?_
                    rintro e w1 ⟨rfl, rfl⟩
                    go_wp2_with (at_builtin; refine wpList_append_lies _ rfl _ _ 22 rfl (b + 1) 9 i0 _ 1 16 Try.underlying22 hi0 hz0 hz1 hz2 rfl (by omega) _ out3.length _ rfl (World.ownsRow.alloc hown _) ⟨wr.heap.size, 0, none⟩ 1 1 [.string x] rfl rfl (World.news_of_block (cs := #[.string x]) (t := 9) (fr := (0, 0)) (heap_alloc_new _ _)) (by simp [Value.oneCell']) (by omega) (by unfold maxLen; omega) (by omega) (by simp; omega) (wr.heap.size + 1) (by simp) ?_; intro gg cap w2 hown1 hgrow hat hlt1; have hk1 : Keeps (fun j => b + 1 ≤ j) wr w2 := (Keeps.refl (fun j => b + 1 ≤ j) wr).alloc _ |>.grown hgrow (fun j hj _ => (hown.lt j hj).1); have hb2 := hblk.keeps hk1 (by omega); have d0 := hb2.cell (i := 0) rfl; have d1 := hb2.free 0)
                    go_roundw
                    case rel =>
                      refine ⟨k + 1, true, _, out3 ++ [x], by omega, by go_num, rfl, hO3.push hk1 hown1 s0, hP4, (fun h => nomatch h), fun _ => ?_⟩
                      cases ag with
                      | true => have := hag1 rfl; omega
                      | false => rw [← (hag0 rfl).1]; exact hcp
                    case measure => simp [intOf]; omega
                · have hxin := isIn_iff.1 hq1
                  unfold isIn at hq1
                  rw [hq1] at HCo
                  clear hq1
                  go_wp2_with fail
                  with_reducible refine HCo.out.mono ?_
                  rintro e w1 ⟨rfl, rfl⟩
                  go_wp2_with fail
                  go_roundw
                  case rel =>
                    refine ⟨k + 1, ag, _, out3, by omega, by go_num, rfl, hO3, hP3, fun ha => ⟨(hag0 ha).1, fun j x' l' hj hx' hl' hno => ?_⟩, hag1⟩
                    rcases Nat.lt_or_ge j k with h | h
                    · exact (hag0 ha).2 j x' l' h hx' hl' hno
                    · have : j = k := by omega
                      subst this
                      rw [hjx] at hx'
                      obtain rfl := Option.some.inj hx'
                      rw [← (hag0 ha).1] at hno
                      exact absurd hxin hno
                  case measure => simp [intOf]; omega
              · have k1 : ¬ (k : Int) < (N.length : Int) := by omega
                go_wp2_with fail
                go_roundg q'
                case measure => omega
                case rel =>
                  refine ⟨ag, v3, out3, rfl, hO3, hP3, fun ha => ?_, ?_⟩
                  · intro j x' l' hx' hl' hno
                    have hj := (List.getElem?_eq_some_iff.1 hx').1
                    rw [(hag0 ha).1] at hno ⊢
                    exact (hag0 ha).2 j x' l' (by omega) hx' hl' hno
                  · cases ag with
                    | true => have := hag1 rfl; simp; omega
                    | false => rw [(hag0 rfl).1]; simp; omega
  · have hne : (chkM N I != 0) = true := bne_iff_ne.2 hok
    obtain ⟨c0, hc0⟩ : ∃ c0, chkM N I = c0 := ⟨_, rfl⟩
    rw [hc0] at HCk hne hok
    have hHC := Lib.hid hc0
    clear hc0
    go_enter Try.func4, Try.ntmps4
    go_wp2_with fail
    with_reducible refine HCk.out.mono ?_
    rintro e w1 ⟨rfl, rfl⟩
    go_wp2_with fail
    go_ret2
    exact ⟨Below.refl _ _, .inl ⟨_, hok, .inl (by rw [hHC.out]; exact hok), rfl⟩⟩
end Go.Proofs.Ytlpbkhiaknmjkaa
