/- SourceLines: for every text the law returns true: the lines joined by line feeds are the text. No conditions. -/
import Derived.Test.YteggjabfgffcfaaDoorSrcWalk
import Derived.Test.YteggjabfgffcfaaDoorCards
import Derived.Test.YteggjabfgffcfaaDoorTie
import Derived.PinnedBridge
import Derived.Lay
import Derived.SevenTiedAt
import Derived.LaidHandle
import Derived.ChangeMaps5
namespace Go.Proofs.YteggjabfgffcfaaDoor.sourceLines
open Go.ChangeShapes Go.WideShapes Go.ChangeAt Go.RowKit Go.Shelf
open Go.ChangeMaps (open_string)

theorem own : ownKnob Tryd.prog.godebug = none := by kernel_rfl
theorem infoStr : (Tryd.prog.info? 9).map (fun i => (i.zero, i.size, i.bytes)) = some (some (.string ⟨#[]⟩), 1, 16) := by kernel_rfl

set_option maxHeartbeats 2000000 in
theorem walk (s : ByteArray) (w : World) :
    Calls Tryd.prog 4 #[.string s] w fun e w' => e = .returned (.bool true) ∧ Below w.heap.size w w' := by
  have HO : Calls Tryd.prog 9 #[.string ⟨#[97, 10, 98]⟩, .int .i64 2] w fun e w' => e = .returned (.tuple #[.string ⟨#[98]⟩, .int .i64 0]) ∧ Below w.heap.size w w' :=
    line_in ⟨#[97, 10, 98]⟩ 1 ⟨#[98]⟩ w (by decide +kernel) (by decide +kernel)
  have H0 := Lib.hid HO
  have HC := Lib.hid (fun (W : World) => check_any s W)
  clear HO
  by_cases hok : chk s = 0
  · have hz := chk_size hok
    obtain ⟨cnt, hcnt⟩ : ∃ cnt, s.data.toList.count 10 = cnt := ⟨_, rfl⟩
    have hc8 : cnt ≤ 8192 := by
      have := List.count_le_length (a := (10 : UInt8)) (l := s.data.toList); rw [← Lib.size_eq] at this; omega
    have hLB : (LB s).length = cnt + 1 := by rw [LB_length, hcnt]
    rw [hok] at HC
    have HCt := Lib.hid (fun (W : World) => (Tryd.strings_Count_one s 10 W).mono (R' := fun e w' => e = .returned (.int .i64 (cnt : Int)) ∧ w' = W) fun e w' ⟨he, hw⟩ =>
      ⟨by rw [he]; show Ending.returned (.int .i64 ((s.data.toList.count 10 : Nat) : Int)) = _; rw [hcnt], hw⟩)
    have HLi := Lib.hid (fun (k : Nat) (x : ByteArray) (hx : (LB s)[k]? = some x) (W : World) => line_in s k x W hok hx)
    have HLo := Lib.hid (fun (W : World) => (show Calls Tryd.prog 9 #[.string s, .int .i64 ((cnt : Int) + 1 + 1)] W (fun e w' => e = .returned (.tuple #[.string ⟨#[]⟩, .int .i64 4]) ∧ Below W.heap.size W w') from by
      have h := line_out s W hok
      rw [hLB] at h
      exact h))
    obtain ⟨i0, hi0, hz0, hz1, hz2⟩ := info_parts infoStr
    have c1 : (cnt : Int) ≤ 8192 := by omega
    have c2 : (0 : Int) ≤ (cnt : Int) := by omega
    have hss : (s.toList == s.toList) = true := by simp
    have HSS := Lib.hid hss
    clear hss hcnt
    go_enter Tryd.func4, Tryd.ntmps4
    go_wp2_with fail
    with_reducible refine H0.out.mono ?_
    rintro e w1 ⟨rfl, hb1⟩
    go_wp2_with fail
    with_reducible refine (HC.out _).mono ?_
    rintro e w2 ⟨rfl, rfl⟩
    go_wp2_with fail
    go_loopw [5, 6] (fun v5 i wr => ∃ k : Nat, k ≤ cnt + 1 ∧ i = .int .i64 ((k : Int) + 1) ∧ Below w.heap.size w wr ∧ wr.ownsRow w.heap.size 9 1 v5 k (((LB s).take k).map Value.string)) (fun _ i _ => cnt + 2 - (intOf i).toNat)
    case atStart => exact ⟨0, Nat.zero_le _, rfl, hb1, World.ownsRow_nil w1 w.heap.size 9 1⟩
    case round =>
      obtain ⟨k, hk, rfl, hb, hown⟩ := hrel
      by_cases hlt : k < cnt + 1
      · obtain ⟨x, hx⟩ : ∃ x, (LB s)[k]? = some x := ⟨_, List.getElem?_eq_getElem (by omega)⟩
        have HL := Lib.hid (HLi.out k x hx)
        have HT := Lib.hid (show (((LB s).take (k + 1)).map Value.string) = (((LB s).take k).map Value.string) ++ [.string x] from by
          rw [List.take_add_one, hx]; simp)
        have q0 : (k : Int) ≤ (cnt : Int) := by omega
        have q1 : (0 : Int) ≤ (k : Int) := by omega
        have q2 : ¬ (cnt : Int) < (k : Int) := by omega
        clear hx
        go_wp2_with fail
        with_reducible refine (HCt.out _).mono ?_
        rintro e w2 ⟨rfl, rfl⟩
        go_wp2_with fail
        with_reducible refine (HL.out _).mono ?_
        rintro e w3 ⟨rfl, hb3⟩
        have hown3 := own_keeps (X := fun _ => False) hown (Keeps.of_below hb3) (fun _ _ h => h)
        have hbw := hb.trans (hb3.mono hb.size)
        have hbz := hbw.size
        clear hown
        go_wp2_with (at_builtin; refine wpList_append_lies _ rfl _ _ 32 rfl w.heap.size 9 i0 _ 1 16 Tryd.underlying32 hi0 hz0 hz1 hz2 rfl (by omega) u5 k _ rfl (World.ownsRow.alloc hown3 _) ⟨w3.heap.size, 0, none⟩ 1 1 [.string x] rfl rfl (World.news_of_block (cs := #[.string x]) (t := 9) (fr := (0, 0)) (heap_alloc_new _ _)) (by simp [Value.oneCell']) (by omega) (by unfold maxLen; omega) (by omega) (by simp; omega) (w3.heap.size + 1) (by simp) ?_; intro gg cap w4 hown1 hgrow hat hlt1; have hb4 : Below w.heap.size w3 w4 := ((Keeps.refl (fun j => w.heap.size ≤ j) w3).alloc _ |>.grown hgrow (fun j hj _ => (hown3.lt j hj).1)).below (fun j h => h) hbz)
        go_roundw
        case rel => exact ⟨k + 1, by omega, by go_num, hbw.trans hb4, by rw [HT.out]; exact hown1⟩
        case measure => simp [intOf]; omega
      · obtain rfl : k = cnt + 1 := by omega
        obtain ⟨g, cap, rfl, hbg, hgl⟩ := hown.form (Nat.succ_pos cnt)
        have htk : (LB s).take (cnt + 1) = LB s := List.take_of_length_le (by omega)
        rw [htk] at hown
        have hcells : ∀ (j : Nat) x, (LB s)[j]? = some x → wr.cell? ⟨g, 0 + j, none⟩ = some (.string x) := fun j x hx => by
          have := hown.cells (g := g) rfl j (.string x) (by rw [List.getElem?_map, hx]; rfl)
          rw [Go.WideShapes.add_plain] at this
          exact this
        have hj : Lib.join ((LB s).map (·.data.toList)) (⟨#[10]⟩ : ByteArray).data.toList = s.data.toList := by rw [LB_lines]; exact lines_join _
        have hzz : s.data.toList.length ≤ 8192 := by rw [← Lib.size_eq]; exact hz
        have hcap : (LB s).length ≤ cap := by
          rcases hown.2 with ⟨h1, _⟩ | ⟨_, _, _, h1, _, _, h3, _⟩
          · cases h1
          · simp only [Value.slice.injEq] at h1
            rw [hLB, h1.2.2]; exact h3
        have HJ := Lib.hid (fun (W : World) (hb : Below wr.heap.size wr W) => (Tryd.strings_Join g 0 cap (LB s) ⟨#[10]⟩ W (fun j x hx => (hb.cell (p := ⟨g, 0 + j, none⟩) hgl).trans (hcells j x hx)) (Nat.lt_of_lt_of_le hgl hb.size) (by omega) hcap (by rw [hj]; omega)).mono
          (R' := fun e w' => e = .returned (.string s) ∧ Below W.heap.size W w') fun e w' ⟨he, hw⟩ => ⟨by rw [he, hj], hw⟩)
        rw [hLB] at HJ
        clear hown hcells hj htk hcap
        go_wp2_with fail
        with_reducible refine (HCt.out _).mono ?_
        rintro e w2 ⟨rfl, rfl⟩
        go_wp2_with fail
        with_reducible refine (HLo.out _).mono ?_
        rintro e w3 ⟨rfl, hb3⟩
        have HJ3 := Lib.hid (HJ.out w3 hb3)
        have hss := HSS.out
        go_wp2_with fail
        with_reducible refine HJ3.out.mono ?_
        rintro e w4 ⟨rfl, hb4⟩
        go_wp2_with fail
        go_ret
        have b3 := hb.trans (hb3.mono hb.size)
        exact ⟨rfl, b3.trans (hb4.mono b3.size)⟩
  · have hne : (chk s != 0) = true := bne_iff_ne.2 hok
    go_enter Tryd.func4, Tryd.ntmps4
    go_wp2_with fail
    with_reducible refine H0.out.mono ?_
    rintro e w1 ⟨rfl, hb1⟩
    go_wp2_with fail
    with_reducible refine (HC.out _).mono ?_
    rintro e w2 ⟨rfl, rfl⟩
    go_wp2_with fail
    go_ret
    exact ⟨rfl, hb1⟩

theorem laid : laidOutB Tryd.prog = true := by kernel_rfl

set_option maxRecDepth 100000 in
theorem lifted (os : Os) (started : os.Started) (H : Type) (enc : TypeId × Value → H) :
    ReturnsInHanded {} Tryd.checked os 4 .any (fun w args => (Rows.sourceLinesSpec.pre enc Tryd.prog Tryd.f4 [] false w args ∧ laidMetH Tryd.prog Rows.sourceLinesRow.laid w) ∧ sizedMet enc Tryd.prog Tryd.f4 (OpenSpec.ofChange Rows.sourceLinesSpec) false w args)
      (Rows.sourceLinesSpec.post enc Tryd.prog Tryd.f4 false true false false) := by
  refine returnsInHanded_of_change_and (C := Tryd.checked) (X := fun w _ => laidMetH Tryd.prog Rows.sourceLinesRow.laid w) (fun _ _ _ hh h => h.of_heap hh) own started (by kernel_rfl) Tryd.func4
    (ChangeSpec.witness_shaped (enc := enc) (C := Tryd.checked) (os := os) (X := fun w _ => laidMetH Tryd.prog Rows.sourceLinesRow.laid w) false (World.laidAll Tryd.prog os Rows.sourceLinesRow.laid) #[.string ⟨#[]⟩] 8 (World.laidAll_os _ _ _)
      (World.shaped_of_ZipB (by kernel_rfl) (by kernel_rfl)) (by kernel_rfl) (by kernel_rfl) (by kernel_rfl)
      (by rw [MakeChecks.laidMetH_plain _ _ _ (by kernel_rfl)]; exact laidMet_laidAll _ (by kernel_rfl) (by kernel_rfl))) ?_
  intro W base args ds gs before hval0 hW _ _ _ _
  have hval : ∀ (j : Nat) t v, Tryd.f4.params[j]? = some t → args[j]? = some v → Value.okWide Tryd.prog W .any base t v := hval0
  have hW' := hW
  obtain ⟨p, q, hA0, hV, hbef, hfz, hnd⟩ := hW
  have hA : DataW.TrodAll enc Tryd.prog W 0 (fun _ => true) true Tryd.f4.params.toList args.toList ds p := hA0
  rw [Tryd.params4] at hA hval
  obtain ⟨v0, vs0, d0, ds0, p0, q0, hargs, hds, rfl, h0, r0⟩ := trodAll_cons hA
  obtain ⟨rfl, rfl, rfl⟩ := trodAll_nil r0
  obtain rfl : args = #[v0] := by cases args; simp_all
  obtain ⟨rfl, _⟩ := trodVars_none hV
  subst hds
  obtain ⟨a0, rfl, rfl, rfl, s0⟩ := open_string Tryd.underlying9 (hval 0 9 v0 rfl rfl) h0
  refine (walk a0 W).mono fun e W' ⟨he, hb⟩ => ?_
  subst he
  exact ⟨_, rfl, law_post laid (by kernel_rfl) rfl Tryd.underlying4 rfl rfl rfl rfl hW' hb⟩

theorem over : Rows.sourceLinesRow.holds Tryd.pinned (OpenSpec.ofChange Rows.sourceLinesSpec) :=
  OpenClaim.holds_of_wide 4 Tryd.f4 rfl rfl rfl rfl rfl rfl rfl ⟨rfl, rfl, rfl, rfl, rfl⟩ rfl rfl rfl rfl rfl (by kernel_rfl) Tryd.func4 (by kernel_rfl)
    (of_decide_eq_true (by kernel_rfl)) (by unfold Func.isWrapper; first | (rw [if_pos (by decide +kernel)]; kernel_rfl) | (rw [if_neg (by decide +kernel)]; exact ⟨rfl, rfl⟩))
    (fun os started H enc _ => lifted os started H enc)

theorem proved : Rows.SourceLinesCardSaid :=
  Claim7.holds_tied_plain_at .later [] [.data, .pinned] true Rows.sourceLinesCard.stood.harness false over (fun _ h => by cases h) (by kernel_rfl) (fun _ h => by cases h) sourceLines_row_tie rfl ⟨rfl, rfl⟩ (by kernel_rfl) rfl
    (fun f fn hf hfn => by
      obtain rfl : f = 4 := Option.some.inj ((show Tryd.prog.funcNamed Tryd.f4.name = some 4 by kernel_rfl).symm.trans hf) |>.symm
      obtain rfl : fn = Tryd.f4 := (Option.some.inj (Tryd.func4.symm.trans hfn)).symm
      exact ⟨by kernel_rfl, fun j t ht => by
        rw [Tryd.params4] at ht
        have hm : t ∈ [9] := by simpa using Array.mem_of_getElem? ht
        have hall : ([9].all fun u => !Tryd.prog.wantsStandIn u) = true := by kernel_rfl
        exact (show Tryd.prog.wantsStandIn t = false by simpa using List.all_eq_true.1 hall t hm)⟩)
    (by kernel_rfl)
#print axioms proved
end Go.Proofs.YteggjabfgffcfaaDoor.sourceLines
