/- classes.Check. -/
import Derived.Test.YtdljlpogljjldaaDoorCFind
namespace Go.Proofs.YtdljlpogljjldaaDoor
open Go.RowKit Go.Shelf Go.Sort

theorem twiceC_step (l : List ClassSig) (k : Nat) (h : k < l.length) : twiceC (l.take k) (l.drop k) = if (l.take k).any (fun x => decide (x.name = l[k].name)) = true then true else twiceC (l.take (k + 1)) (l.drop (k + 1)) := by
  rw [List.drop_eq_getElem_cons h, twiceC, List.take_succ_eq_append_getElem h]
theorem supErr_step (l : List ClassSig) (s : List ByteArray) (j : Nat) (h : j < s.length) : supErr l (s.take j) (s.drop j) = if (findC l s[j]).isSome = false then 6 else if hasN (s.take j) s[j] = true then 7 else supErr l (s.take (j + 1)) (s.drop (j + 1)) := by
  rw [List.drop_eq_getElem_cons h, supErr, List.take_succ_eq_append_getElem h]
theorem supsErr_step (l : List ClassSig) (k : Nat) (h : k < l.length) : supsErr l (l.drop k) = if supErr l [] l[k].super ≠ 0 then supErr l [] l[k].super else supsErr l (l.drop (k + 1)) := by
  rw [List.drop_eq_getElem_cons h, supsErr]
set_option maxRecDepth 100000 in
set_option maxHeartbeats 8000000 in
theorem classesCheck (l : List ClassSig) (v : Value) (F : Nat → Prop) (W : World) (hv : Sl W F ClassSig.d l v) (hF : ∀ b, F b → b < W.heap.size) :
    Calls Tryd.prog 26 #[v] W fun e w' => e = .returned (.int .i64 (checkC l)) ∧ Keeps (fun _ => False) W w' := by
  obtain ⟨i0, hi0, hz0, hz1, hz2⟩ := info_parts infoStr
  obtain ⟨A, c, rfl, hlc, hcm, _⟩ := hv.form
  have hl : l.length ≤ 9223372036854775807 := by unfold maxLen at hcm; omega
  have hc63 : (c : Int) ≤ 9223372036854775807 := by unfold maxLen at hcm; omega
  have HV := Lib.hid hv
  have HF := Lib.hid hF
  clear hv hF hcm
  by_cases hbig : 4096 < l.length
  · have hb : (4096 : Int) < (l.length : Int) := by omega
    have HE : Hid (checkC l = 2) := by show _ = _; rw [checkC, if_pos hbig]
    clear hbig
    go_enter Tryd.func26, Tryd.ntmps26
    go_wp2_with fail
    go_ret
    exact ⟨ret_int HE.out.symm, Keeps.refl _ _⟩
  have hb : ¬ (4096 : Int) < (l.length : Int) := by omega
  have hE0 : checkC l = if twiceC [] l = true then 7 else if supsErr l l ≠ 0 then supsErr l l else if (doneAll l l.length []).length < l.length then 8 else 0 := by rw [checkC, if_neg hbig]
  have HE0 := Lib.hid hE0
  clear hE0
  go_enter Tryd.func26, Tryd.ntmps26
  go_wp2_with fail
  go_loopw [19] (fun i wr => ∃ k : Nat, k ≤ l.length ∧ .int .i64 (k : Int) = i ∧ Keeps (fun _ => False) W wr ∧ Hid (twiceC [] l = twiceC (l.take k) (l.drop k))) (fun i _ => l.length - (intOf i).toNat)
  case atStart => exact ⟨0, Nat.zero_le _, rfl, Keeps.refl _ _, rfl⟩
  case round =>
    obtain ⟨k, hk, rfl, hkr, hno⟩ := hrel
    obtain ⟨wx, hwx⟩ : ∃ wx, wx = wr := ⟨_, rfl⟩
    rw [← hwx] at hkr ⊢
    clear hwx
    by_cases hlt : k < l.length
    · have hst := twiceC_step l k hlt
      obtain ⟨g, off, v1, v2, hadr, hg, c0, c1, c2, _, hsup, hops⟩ := ClassSig.get (HV.out.keeps hkr (fun _ _ h => h)) hlt
      obtain rfl := hadr
      obtain ⟨A1, q1, rfl, _⟩ := hsup.form
      obtain ⟨A2, q2, rfl, _⟩ := hops.form
      have hkc : (k : Int) ≤ (c : Int) := by omega
      have hkc' : ¬ c < k := by omega
      have hk0 : (0 : Int) ≤ (k : Int) := by omega
      obtain ⟨q, hq⟩ : ∃ q, (l.take k).any (fun x => decide (x.name = l[k].name)) = q := ⟨_, rfl⟩
      have HCF : Hid (∀ X b, Keeps (fun _ => False) W X → X.cell? ⟨b, 0, none⟩ = some (.string l[k].name) → Calls Tryd.prog 37 #[.slice (some ⟨g, off, none⟩) k c, .func (.func 38) #[] #[.pointer (some ⟨b, 0, none⟩)]] X (fun e w' => e = .returned (.bool q) ∧ Keeps (fun _ => False) W w')) := fun X b hx hc => by
        have hv2 := Sl.take (HV.out.keeps hx (fun _ _ h => h)) (i := k) (by omega)
        refine (clsContainsFunc (l.take k) _ F X hv2 38 #[.pointer (some ⟨b, 0, none⟩)] (fun x => decide (x.name = l[k].name)) (enters_of Tryd.func38 (by kernel_rfl) rfl) (fun i h cs w1 hb1 hr => check_clo1 _ _ F w1 b cs ((hb1.cell (block_lt_of_cell hc)).trans hc) hr)).mono ?_
        rintro e w' ⟨he, hb⟩
        exact ⟨by rw [he, hq], hx.trans (Keeps.of_below (X := fun _ => False) hb) (fun _ _ h => h)⟩
      have HKR := Lib.hid hkr
      rw [hq] at hst
      have HNO := Lib.hid (hno.out.trans hst)
      clear hq hkr hst hno hsup hops
      go_wp2_with fail
      refine (HCF.out _ _ (HKR.out.alloc _) ((Blk.new wx 42 [.string l[k].name, _, _]).cell (i := 0) rfl)).mono ?_
      rintro e w5 ⟨rfl, hk5⟩
      have HK5 := Lib.hid hk5
      clear hk5
      cases q
      · have HE := Lib.hid (HNO.out.trans (if_neg (by simp)))
        clear HNO
        go_wp2_with fail
        go_roundw
        case rel => exact ⟨k + 1, by omega, by go_num, HK5.out, HE.out⟩
        case measure => simp [intOf]; omega
      · have HE : Hid (checkC l = 7) := by show _ = _; rw [HE0.out, HNO.out, if_pos rfl, if_pos rfl]
        clear HNO
        go_wp2_with fail
        go_ret
        exact ⟨ret_int HE.out.symm, HK5.out⟩
    · have hd : l.drop k = [] := List.drop_eq_nil_of_le (by omega)
      have HT : Hid (checkC l = if supsErr l l ≠ 0 then supsErr l l else if (doneAll l l.length []).length < l.length then 8 else 0) := by
        show _ = _; rw [HE0.out, hno.out, hd, twiceC, if_neg (by simp)]
      have HKX := Lib.hid hkr
      have hkn : ¬ (k : Int) < (l.length : Int) := by omega
      clear hd hno hkr
      go_wp2_with fail
      clear hkn
      go_loopw [32] (fun i wr => ∃ k : Nat, k ≤ l.length ∧ .int .i64 (k : Int) = i ∧ Keeps (fun _ => False) W wr ∧ Hid (supsErr l l = supsErr l (l.drop k))) (fun i _ => l.length - (intOf i).toNat)
      case atStart => exact ⟨0, Nat.zero_le _, rfl, HKX.out, rfl⟩
      case round =>
        clear HKX hlt hk
        obtain ⟨k, hk, rfl, hkr, hno⟩ := hrel
        obtain ⟨wx, hwx⟩ : ∃ wx, wx = wr := ⟨_, rfl⟩
        rw [← hwx] at hkr ⊢
        clear hwx
        have HKR := Lib.hid hkr
        by_cases hlt : k < l.length
        · have hst := supsErr_step l k hlt
          obtain ⟨g, off, v1, v2, hadr, hg, c0, c1, c2, _, hsup, hops⟩ := ClassSig.get (HV.out.keeps hkr (fun _ _ h => h)) hlt
          obtain rfl := hadr
          obtain ⟨A1, q1, rfl, hq1, hq2, _⟩ := hsup.form
          obtain ⟨A2, q2, rfl, _⟩ := hops.form
          have HSup := Lib.hid hsup
          obtain ⟨sl, hsl⟩ : ∃ sl, l[k].super = sl := ⟨_, rfl⟩
          obtain ⟨cn, hcn⟩ : ∃ cn, l[k].name = cn := ⟨_, rfl⟩
          obtain ⟨on, hon⟩ : ∃ on, l[k].ops.length = on := ⟨_, rfl⟩
          rw [hsl] at hst c1 HSup hq1
          rw [hcn] at c0
          rw [hon] at c2
          have hsl63 : (sl.length : Int) ≤ 9223372036854775807 := by unfold maxLen at hq2; omega
          have hq63 : (q1 : Int) ≤ 9223372036854775807 := by unfold maxLen at hq2; omega
          have HNO := Lib.hid (hno.out.trans hst)
          have hkl : (k : Int) < (l.length : Int) := by omega
          clear hst hno hkr hsup hops hsl hcn hon hq2
          go_wp2_with fail
          obtain ⟨b6, hb6⟩ : ∃ b6, wx.heap.size = b6 := ⟨_, rfl⟩
          obtain ⟨W6, hW6⟩ : ∃ W6, wx.alloc (.cells #[.string cn, .slice A1 sl.length q1, .slice A2 on q2] 42) = W6 := ⟨_, rfl⟩
          have hk6 : Keeps (fun _ => False) wx W6 := by rw [← hW6]; exact (Keeps.refl _ _).alloc _
          have hB6 : Blk W6 b6 42 [.string cn, .slice A1 sl.length q1, .slice A2 on q2] := by rw [← hW6, ← hb6]; exact Blk.new wx _ [_, _, _]
          rw [hW6, hb6]
          have HB6 := Lib.hid hB6
          have HK6 := Lib.hid (HKR.out.trans hk6 (fun _ _ h => h))
          have HS6 := Lib.hid (HSup.out.keeps hk6 (fun _ _ h => h))
          clear hb6 hW6 hk6 hB6 HSup
          go_loopw [39] (fun i wi => ∃ j : Nat, j ≤ sl.length ∧ .int .i64 (j : Int) = i ∧ Keeps (fun _ => False) W6 wi ∧ Hid (supErr l [] sl = supErr l (sl.take j) (sl.drop j))) (fun i _ => sl.length - (intOf i).toNat)
          case atStart => exact ⟨0, Nat.zero_le _, rfl, Keeps.refl _ _, rfl⟩
          case round =>
            obtain ⟨j, hj, rfl, hkj, hnj⟩ := hrel
            obtain ⟨wy, hwy⟩ : ∃ wy, wy = wr := ⟨_, rfl⟩
            rw [← hwy] at hkj ⊢
            clear hwy
            have HKJ := Lib.hid hkj
            by_cases hltj : j < sl.length
            · have hstj := supErr_step l sl j hltj
              obtain ⟨gs, offs, hadr, hgs, s0, hss⟩ := dStr.get (HS6.out.keeps hkj (fun _ _ h => h)) hltj
              obtain rfl := hadr
              obtain ⟨x, hx⟩ : ∃ x, sl[j] = x := ⟨_, rfl⟩
              rw [hx] at s0 hstj
              have HNJ := Lib.hid (hnj.out.trans hstj)
              have HFi := Lib.hid (find_any l x _ F wy ((HV.out.keeps HK6.out (fun _ _ h => h)).keeps hkj (fun _ _ h => h)) (fun b hb => by have := HF.out b hb; have := HK6.out.size; have := hkj.size; omega))
              have hjq : (j : Int) ≤ (q1 : Int) := by omega
              have hjq' : ¬ q1 < j := by omega
              have hj0 : (0 : Int) ≤ (j : Int) := by omega
              have hjl : (j : Int) < (sl.length : Int) := by omega
              clear hstj hnj hkj hx hss
              go_wp2_with fail
              with_reducible refine HFi.out.mono ?_
              rintro e w7 ⟨hk7, (⟨cc, A3, q3, A4, n4, q4, hfc, rfl, _⟩ | ⟨hfc, rfl⟩)⟩
              · have hb6' := (HB6.out.keeps HKJ.out (fun h => h)).keeps hk7 (fun h => h)
                have d1 := hb6'.cell (i := 1) rfl
                have hbl6 := hb6'.lt
                have HK7 := Lib.hid ((HK6.out.trans HKJ.out (fun _ _ h => h)).trans hk7 (fun _ _ h => h))
                have HKJ7 := Lib.hid (HKJ.out.trans hk7 (fun _ _ h => h))
                have HC7 : Hid (∀ X, Keeps (fun _ => False) w7 X → Calls Tryd.prog 39 #[.slice (some ⟨gs, offs, none⟩) j q1, .string x] X (fun e w' => e = .returned (.bool (hasN (sl.take j) x)) ∧ X = w')) := fun X hk =>
                  strContains (sl.take j) x _ F X (Sl.take ((((HS6.out.keeps HKJ.out (fun _ _ h => h)).keeps hk7 (fun _ _ h => h)).keeps hk (fun _ _ h => h))) (i := j) (by omega))
                have HFC := Lib.hid hfc
                clear hb6' hk7 hfc
                obtain ⟨q, hq⟩ : ∃ q, hasN (sl.take j) x = q := ⟨_, rfl⟩
                rw [hq] at HC7
                have HQ := Lib.hid hq
                clear hq
                cases q
                · go_wp2_with fail
                  with_reducible refine (HC7.out _ ((Keeps.refl _ _).alloc _)).mono ?_
                  rintro e w8 ⟨rfl, rfl⟩
                  go_wp2_with fail
                  go_roundw
                  case rel => exact ⟨j + 1, by omega, by go_num, HKJ7.out.alloc _, HNJ.out.trans (by rw [HFC.out, HQ.out]; simp)⟩
                  case measure => simp [intOf]; omega
                · go_wp2_with fail
                  with_reducible refine (HC7.out _ ((Keeps.refl _ _).alloc _)).mono ?_
                  rintro e w8 ⟨rfl, rfl⟩
                  go_wp2_with fail
                  go_ret
                  have h7 : supErr l [] sl = 7 := HNJ.out.trans (by rw [HFC.out, HQ.out]; simp)
                  have h8 : supsErr l l = 7 := HNO.out.trans (by rw [h7]; simp)
                  exact ⟨ret_int (by rw [HT.out, h8]; simp), HK7.out.alloc _⟩
              · have h7 : supErr l [] sl = 6 := HNJ.out.trans (by rw [hfc]; simp)
                have h8 : supsErr l l = 6 := HNO.out.trans (by rw [h7]; simp)
                have HE : Hid (checkC l = 6) := by show _ = _; rw [HT.out, h8]; simp
                have HK7 := Lib.hid ((HK6.out.trans HKJ.out (fun _ _ h => h)).trans hk7 (fun _ _ h => h))
                clear h7 h8 hfc hk7
                go_wp2_with fail
                go_ret
                exact ⟨ret_int HE.out.symm, HK7.out.alloc _⟩
            · have hd : sl.drop j = [] := List.drop_eq_nil_of_le (by omega)
              have h7 : supErr l [] sl = 0 := by rw [hnj.out, hd, supErr]
              have HE : Hid (supsErr l l = supsErr l (l.drop (k + 1))) := HNO.out.trans (by rw [h7]; simp)
              have HKW := Lib.hid (HK6.out.trans hkj (fun _ _ h => h))
              have hjl : ¬ (j : Int) < (sl.length : Int) := by omega
              clear hd h7 hnj hkj
              go_wp2_with fail
              go_roundw
              case rel => exact ⟨k + 1, by omega, by go_num, HKW.out, HE.out⟩
              case measure => simp [intOf]; omega
        · have hd : l.drop k = [] := List.drop_eq_nil_of_le (by omega)
          have HT2 : Hid (checkC l = if (doneAll l l.length []).length < l.length then 8 else 0) := by
            show _ = _; rw [HT.out, hno.out, hd, supsErr]; simp
          have hkn : ¬ (k : Int) < (l.length : Int) := by omega
          clear hd hno hkr HT HE0
          go_wp2_with fail
          clear hkn hlt hk
          obtain ⟨bd, hbd⟩ : ∃ bd, wx.heap.size = bd := ⟨_, rfl⟩
          obtain ⟨W9, hW9⟩ : ∃ W9, wx.alloc (.cells #[.slice none 0 0] 39) = W9 := ⟨_, rfl⟩
          have hk9 : Keeps (fun i => bd ≤ i) W W9 := by rw [← hW9]; exact (HKR.out.mono (fun _ _ h => h.elim)).alloc _
          have hD9 : Blk W9 bd 39 [.slice none 0 0] := by rw [← hW9, ← hbd]; exact Blk.new wx _ [_]
          have hWbd : W.heap.size ≤ bd := by have := HKR.out.size; omega
          rw [hW9, hbd]
          have HD9 := Lib.hid hD9
          have HK9 := Lib.hid hk9
          have HWbd := Lib.hid hWbd
          clear hk9 hD9 hW9 hbd hWbd HKR
          go_loopw [62] (fun i wr => ∃ (k : Nat) (done : List ByteArray) (dv : Value), k ≤ l.length ∧ .int .i64 (k : Int) = i ∧ Blk wr bd 39 [dv] ∧ wr.ownsRow (bd + 1) 9 1 dv done.length (done.map Value.string) ∧ (∀ y ∈ done, y.size ≤ maxLen) ∧ done.length ≤ k * 4096 ∧ Keeps (fun i => bd ≤ i) W wr ∧ Hid (doneAll l l.length [] = doneAll l (l.length - k) done)) (fun i _ => l.length - (intOf i).toNat)
          case atStart => exact ⟨0, [], _, Nat.zero_le _, rfl, HD9.out, World.ownsRow_nil _ _ _ _, (fun y hy => by cases hy), Nat.zero_le _, HK9.out, rfl⟩
          case round =>
            clear HD9 HK9
            obtain ⟨k, done, dv, hk, rfl, hbd, hown, hds, hdl, hkr, hno⟩ := hrel
            obtain ⟨wx, hwx⟩ : ∃ wx, wx = wr := ⟨_, rfl⟩
            rw [← hwx] at hkr hbd hown ⊢
            clear hwx
            have HKR := Lib.hid hkr
            obtain ⟨Ad, cd, rfl⟩ := own_slform hown
            have HBd := Lib.hid hbd
            have HOwn := Lib.hid hown
            have HDs := Lib.hid hds
            have hbdl := hbd.lt
            by_cases hlt : k < l.length
            · obtain ⟨m, hm⟩ : ∃ m, l.length - k = m + 1 := ⟨l.length - k - 1, by omega⟩
              have HNO : Hid (doneAll l l.length [] = doneAll l m (l.foldl doneStep done)) := by show _ = _; rw [hno.out, hm, doneAll]
              have hkl : (k : Int) < (l.length : Int) := by omega
              clear hno hkr hbd hown hds
              go_wp2_with fail
              go_loopw [66] (fun i wi => ∃ (j : Nat) (done2 : List ByteArray) (dv : Value), j ≤ l.length ∧ .int .i64 (j : Int) = i ∧ Blk wi bd 39 [dv] ∧ wi.ownsRow (bd + 1) 9 1 dv done2.length (done2.map Value.string) ∧ (∀ y ∈ done2, y.size ≤ maxLen) ∧ done2.length ≤ done.length + j ∧ Keeps (fun i => bd ≤ i) W wi ∧ Hid (l.foldl doneStep done = (l.drop j).foldl doneStep done2)) (fun i _ => l.length - (intOf i).toNat)
              case atStart => exact ⟨0, done, _, Nat.zero_le _, rfl, HBd.out, HOwn.out, HDs.out, by omega, HKR.out, rfl⟩
              case round =>
                clear HBd HOwn HDs HKR hbdl
                obtain ⟨j, d2, dv, hj, rfl, hbd, hown, hds, hd2, hkr, hnj⟩ := hrel
                obtain ⟨wy, hwy⟩ : ∃ wy, wy = wr := ⟨_, rfl⟩
                rw [← hwy] at hkr hbd hown ⊢
                clear hwy
                obtain ⟨Ad, cd, rfl⟩ := own_slform hown
                by_cases hltj : j < l.length
                · obtain ⟨g, off, v1, v2, hadr, hg, c0, c1, c2, hcs, hsup, hops⟩ := ClassSig.get (HV.out.keeps hkr (fun i hi h => by have := HF.out i hi; have := HWbd.out; have h2 : bd ≤ i := h; omega)) hltj
                  obtain rfl := hadr
                  obtain ⟨A1, q1, rfl, hq1, hq2, _⟩ := hsup.form
                  obtain ⟨A2, q2, rfl, _⟩ := hops.form
                  have hstep : (l.drop j).foldl doneStep d2 = (l.drop (j + 1)).foldl doneStep (doneStep d2 l[j]) := by rw [List.drop_eq_getElem_cons hltj, List.foldl_cons]
                  obtain ⟨x, hx⟩ : ∃ x, l[j] = x := ⟨_, rfl⟩
                  rw [hx] at c0 c1 c2 hcs hsup hops hstep
                  have hgl : g < wy.heap.size := block_lt_of_cell c0
                  obtain ⟨b13, hb13⟩ : ∃ b13, wy.heap.size = b13 := ⟨_, rfl⟩
                  obtain ⟨W13, hW13⟩ : ∃ W13, wy.alloc (.cells #[.string x.name, .slice A1 x.super.length q1, .slice A2 x.ops.length q2] 42) = W13 := ⟨_, rfl⟩
                  have hk13 : Keeps (fun _ => False) wy W13 := by rw [← hW13]; exact (Keeps.refl _ _).alloc _
                  have hB13 : Blk W13 b13 42 [.string x.name, .slice A1 x.super.length q1, .slice A2 x.ops.length q2] := by rw [← hW13, ← hb13]; exact Blk.new wy _ [_, _, _]
                  have hD13 := hbd.keeps hk13 (fun h => h)
                  have hOw := own_keeps hown hk13 (fun _ _ h => h)
                  have hSd : Sl W13 (fun b => b < W13.heap.size) dStr d2 (.slice Ad d2.length cd) := Sl.of_own (F := fun _ => False) hOw rfl (rp_strs _ _ hds _) (fun _ h => h.elim) (fun b hb => (hOw.lt b hb).2)
                  have hSs := hsup.keeps hk13 (fun _ _ h => h)
                  obtain ⟨p1, hp1⟩ : ∃ p1, hasN d2 x.name = p1 := ⟨_, rfl⟩
                  obtain ⟨p2, hp2⟩ : ∃ p2, x.super.any (fun s => !(hasN d2 s)) = p2 := ⟨_, rfl⟩
                  have HC1 : Hid (∀ X, Keeps (fun _ => False) W13 X → Calls Tryd.prog 39 #[.slice Ad d2.length cd, .string x.name] X (fun e w' => e = .returned (.bool p1) ∧ X = w')) := fun X hk => by
                    rw [← hp1]; exact strContains d2 x.name _ _ X (hSd.keeps hk (fun _ _ h => h))
                  have HC2 : Hid (∀ X, Keeps (fun _ => False) W13 X → Calls Tryd.prog 40 #[.slice A1 x.super.length q1, .func (.func 41) #[] #[.pointer (some ⟨bd, 0, none⟩)]] X (fun e w' => e = .returned (.bool p2) ∧ X = w')) := fun X hk => by
                    rw [← hp2]
                    exact strContainsFunc x.super _ F X (hSs.keeps hk (fun _ _ h => h)) 41 #[.pointer (some ⟨bd, 0, none⟩)] (fun s => !(hasN d2 s)) (enters_of Tryd.func41 (by kernel_rfl) rfl)
                      (fun y => (check_clo2 d2 y _ _ X bd ((hD13.keeps hk (fun h => h)).cell (i := 0) rfl) (hSd.keeps hk (fun _ _ h => h))).mono fun e w' ⟨he, hw⟩ => ⟨he, hw.symm⟩)
                  have HNJ := Lib.hid (hnj.out.trans hstep)
                  have HD13 := Lib.hid hD13
                  have HOw := Lib.hid hOw
                  have HB13 := Lib.hid hB13
                  have HP1 := Lib.hid hp1
                  have HP2 := Lib.hid hp2
                  have HW13 := Lib.hid hW13
                  have HBn := Lib.hid hb13
                  have HKR := Lib.hid hkr
                  have HK13 := Lib.hid hk13
                  have HDs := Lib.hid hds
                  have HCs := Lib.hid hcs
                  have hjl : (j : Int) < (l.length : Int) := by omega
                  have e0 := hB13.cell (i := 0) rfl
                  have e1 := hB13.cell (i := 1) rfl
                  have d0 := hD13.cell (i := 0) rfl
                  have dy0 := hbd.cell (i := 0) rfl
                  have hbdl := hbd.lt
                  have hgl13 := hB13.lt
                  clear hx hb13 hW13 hk13 hB13 hD13 hOw hSd hSs hp1 hp2 hnj hstep hkr hbd hown hds hcs hsup hops hq2
                  go_wp2_with fail
                  rw [HW13.out, HBn.out]
                  go_wp2_with fail
                  with_reducible refine (HC1.out _ (Keeps.refl _ _)).mono ?_
                  rintro e w14 ⟨rfl, rfl⟩
                  clear dy0 hbdl
                  cases p1
                  · cases p2
                    · have HST : Hid (doneStep d2 x = d2 ++ [x.name]) := by show _ = _; rw [doneStep, doneOk, HP1.out, HP2.out]; rfl
                      have hlen : (d2 ++ [x.name]).length = d2.length + 1 := by simp
                      go_wp2_with fail
                      with_reducible refine (HC2.out _ (Keeps.refl _ _)).mono ?_
                      rintro e w15 ⟨rfl, rfl⟩
                      have hn1 : d2.length + 1 ≤ 281474976710 := by omega
                      have hbd13 := HD13.out.lt
                      go_wp2_with (at_builtin; refine wpList_append_lies _ rfl _ _ 39 rfl (bd + 1) 9 i0 _ 1 16 Tryd.underlying39 hi0 hz0 hz1 hz2 rfl (by omega) _ d2.length _ rfl (World.ownsRow.alloc HOw.out _) ⟨W13.heap.size, 0, none⟩ 1 1 [.string x.name] rfl rfl (World.news_of_block (cs := #[.string x.name]) (t := 9) (fr := (0, 0)) (heap_alloc_new _ _)) (by simp [Value.oneCell']) (by omega) (by unfold maxLen; omega) (by omega) (by simp; omega) (W13.heap.size + 1) (by simp) ?_; intro gg cap w9 hown1 hgrow hat hlt1; have hk9 : Keeps (fun i => bd + 1 ≤ i) W13 w9 := ((Keeps.refl _ _).alloc _).grown hgrow (fun j hj hjl => (HOw.out.lt j hj).1); have hD9 := HD13.out.keeps hk9 (by omega); have d9 := hD9.cell (i := 0) rfl; have f9 := hD9.free 0)
                      have hKs : Keeps (· = bd) w9 (w9.setCell ⟨bd, 0, none⟩ (.slice (some ⟨gg, 0, none⟩) (d2.length + 1) cap)) := (Keeps.refl (· = bd) w9).setCell (p := ⟨bd, 0, none⟩) (fun _ => rfl) _
                      have hgg : bd + 1 ≤ gg := (hown1.lt gg rfl).1
                      have hownF := own_keeps hown1 hKs (fun i hi e => by
                        have e2 : gg = i := by simpa [Value.ownBlock] using hi
                        have e3 : i = bd := e
                        omega)
                      have hszs : ∀ y ∈ d2 ++ [x.name], y.size ≤ maxLen := fun y hy => by
                        rcases List.mem_append.1 hy with hy | hy
                        · exact HDs.out y hy
                        · rw [List.mem_singleton.1 hy]; exact HCs.out
                      have hkf : Keeps (fun i => bd ≤ i) W (w9.setCell ⟨bd, 0, none⟩ (.slice (some ⟨gg, 0, none⟩) (d2.length + 1) cap)) :=
                        ((HKR.out.trans HK13.out (fun _ _ h => h.elim)).trans hk9 (fun i _ h => by have h2 : bd + 1 ≤ i := h; show bd ≤ i; omega)).trans hKs (fun i _ h => by have h2 : i = bd := h; show bd ≤ i; omega)
                      have hDf := hD9.set_ 0 (.slice (some ⟨gg, 0, none⟩) (d2.length + 1) cap)
                      go_roundw
                      case rel => exact ⟨j + 1, d2 ++ [x.name], .slice (some ⟨gg, 0, none⟩) (d2.length + 1) cap, by omega, by go_num, hDf, by rw [hlen, List.map_append]; exact hownF, hszs, by omega, hkf, HNJ.out.trans (by rw [HST.out])⟩
                      case measure => simp [intOf]; omega
                    · have HST : Hid (doneStep d2 x = d2) := by show _ = _; rw [doneStep, doneOk, HP1.out, HP2.out]; rfl
                      go_wp2_with ((go_at_call 40; with_reducible refine (HC2.out _ (Keeps.refl _ _)).mono ?_); rintro e w15 ⟨rfl, rfl⟩)
                      go_roundw
                      case rel => exact ⟨j + 1, d2, _, by omega, by go_num, HD13.out, HOw.out, HDs.out, by omega, HKR.out.trans HK13.out (fun _ _ h => h.elim), HNJ.out.trans (by rw [HST.out])⟩
                      case measure => simp [intOf]; omega
                  · have HST : Hid (doneStep d2 x = d2) := by show _ = _; rw [doneStep, doneOk, HP1.out]; rfl
                    go_wp2_with fail
                    go_roundw
                    case rel => exact ⟨j + 1, d2, _, by omega, by go_num, HD13.out, HOw.out, HDs.out, by omega, HKR.out.trans HK13.out (fun _ _ h => h.elim), HNJ.out.trans (by rw [HST.out])⟩
                    case measure => simp [intOf]; omega
                · obtain rfl : j = l.length := by omega
                  have hd : l.drop l.length = [] := List.drop_eq_nil_of_le (Nat.le_refl _)
                  have HE : Hid (doneAll l l.length [] = doneAll l (l.length - (k + 1)) d2) := by
                    show _ = _
                    rw [HNO.out, hnj.out, hd, List.foldl_nil, show l.length - (k + 1) = m from by omega]
                  have HBd := Lib.hid hbd
                  have HOwn := Lib.hid hown
                  have HDs := Lib.hid hds
                  have HKR := Lib.hid hkr
                  have hjl : ¬ (l.length : Int) < (l.length : Int) := by omega
                  clear hd hnj hbd hown hds hkr
                  go_wp2_with fail
                  go_roundw
                  case rel => exact ⟨k + 1, d2, _, by omega, by go_num, HBd.out, HOwn.out, HDs.out, by omega, HKR.out, HE.out⟩
                  case measure => simp [intOf]; omega
            · have hkn : ¬ (k : Int) < (l.length : Int) := by omega
              have hz : doneAll l l.length [] = done := by rw [hno.out, show l.length - k = 0 from by omega, doneAll]
              have d0 := hbd.cell (i := 0) rfl
              have HKE : Hid (Keeps (fun _ => False) W wx) := Keeps.of_below (X := fun _ => False) (hkr.below (fun i h => by have := HWbd.out; have h2 : bd ≤ i := h; omega) (Nat.le_refl _))
              by_cases hdn : done.length < l.length
              · have hdn2 : (done.length : Int) < (l.length : Int) := by omega
                have HE : Hid (checkC l = 8) := by show _ = _; rw [HT2.out, hz, if_pos hdn]
                clear hz hdn hno hbd hown hds hkr
                go_wp2_with fail
                go_ret
                exact ⟨ret_int HE.out.symm, HKE.out⟩
              · have hdn2 : ¬ (done.length : Int) < (l.length : Int) := by omega
                have hdn3 : ¬ done.length < l.length := hdn
                have HE : Hid (checkC l = 0) := by show _ = _; rw [HT2.out, hz, if_neg hdn]
                clear hz hdn hno hbd hown hds hkr
                go_wp2_with fail
                go_ret
                exact ⟨ret_int HE.out.symm, HKE.out⟩
end Go.Proofs.YtdljlpogljjldaaDoor
