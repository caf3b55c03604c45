/- SourceBack: for every text and every number the law returns true: Offset is the inverse of Place. No conditions. -/
import Derived.Test.YteggjabfgffcfaaDoorSrcWalk
import Derived.Test.YteggjabfgffcfaaDoorWithin
import Derived.Test.YteggjabfgffcfaaDoorCards
import Derived.Test.YteggjabfgffcfaaDoorTie
import Derived.PinnedBridge
import Derived.Lay
import Derived.SevenTiedAt
import Derived.LaidHandle
import Derived.ChangeMaps5
namespace Go.Proofs.YteggjabfgffcfaaDoor.sourceBack
open Go.ChangeShapes Go.WideShapes Go.ChangeAt Go.RowKit Go.Shelf
open Go.ChangeMaps (open_string)

theorem own : ownKnob Tryd.prog.godebug = none := by kernel_rfl

set_option maxHeartbeats 1000000 in
theorem walk (s : ByteArray) (n : Int) (w : World) :
    Calls Tryd.prog 3 #[.string s, .int .i64 n] w fun e w' => e = .returned (.bool true) ∧ Below w.heap.size w w' := by
  have HO : Calls Tryd.prog 5 #[.string ⟨#[97, 98, 10, 99, 100]⟩, .int .i64 2, .int .i64 2] w fun e w' => e = .returned (.tuple #[.int .i64 4, .int .i64 0]) ∧ Below w.heap.size w w' :=
    offset_in ⟨#[97, 98, 10, 99, 100]⟩ 1 1 ⟨#[99, 100]⟩ w (by decide +kernel) (by decide +kernel) (by decide)
  have H0 := Lib.hid HO
  have HC := Lib.hid (fun (W : World) => check_any s W)
  clear HO
  by_cases hok : chk s = 0
  · have hz := chk_size hok
    rw [hok] at HC
    obtain ⟨N, hN⟩ : ∃ N : Nat, withinI n 0 s.size = N := ⟨(withinI n 0 s.size).toNat, by have := withinI_lo n 0 s.size (by omega); omega⟩
    have hNs : N ≤ s.size := by have := withinI_hi n 0 s.size (by omega); omega
    have HW := Lib.hid (fun (W : World) => within_any n 0 s.size W (by omega) (by omega) (by omega) (by omega))
    rw [hN] at HW
    have HP := Lib.hid (fun (W : World) => place_in s N W hok hNs)
    clear hN
    go_enter Tryd.func3, Tryd.ntmps3
    go_wp2_with fail
    with_reducible refine H0.out.mono ?_
    rintro e w1 ⟨rfl, hb1⟩
    go_wp2_with fail
    with_reducible refine (HC.out _).mono ?_
    rintro e w2 ⟨rfl, rfl⟩
    go_wp2_with fail
    with_reducible refine (HW.out _).mono ?_
    rintro e w2 ⟨rfl, rfl⟩
    go_wp2_with fail
    with_reducible refine (HP.out _).mono ?_
    rintro e w2 ⟨k, b, x, c, hx, hc, hst, hbc, rfl, hb2⟩
    have HB := offset_in s k c x w2 hok hx hc
    rw [hst, show (b : Int) + (c : Int) = (N : Int) from by omega] at HB
    have HF := Lib.hid HB
    clear HB hst hbc hx hc
    go_wp2_with fail
    with_reducible refine HF.out.mono ?_
    rintro e w3 ⟨rfl, hb3⟩
    go_wp2_with fail
    go_ret
    have b2 := hb1.trans (hb2.mono hb1.size)
    exact ⟨rfl, b2.trans (hb3.mono b2.size)⟩
  · have hne : (chk s != 0) = true := bne_iff_ne.2 hok
    go_enter Tryd.func3, Tryd.ntmps3
    go_wp2_with fail
    with_reducible refine H0.out.mono ?_
    rintro e w1 ⟨rfl, hb1⟩
    go_wp2_with fail
    with_reducible refine (HC.out _).mono ?_
    rintro e w2 ⟨rfl, rfl⟩
    go_wp2_with fail
    go_ret
    exact ⟨rfl, hb1⟩

theorem laid : laidOutB Tryd.prog = true := by kernel_rfl

set_option maxRecDepth 100000 in
theorem lifted (os : Os) (started : os.Started) (H : Type) (enc : TypeId × Value → H) :
    ReturnsInHanded {} Tryd.checked os 3 .any (fun w args => (Rows.sourceBackSpec.pre enc Tryd.prog Tryd.f3 [] false w args ∧ laidMetH Tryd.prog Rows.sourceBackRow.laid w) ∧ sizedMet enc Tryd.prog Tryd.f3 (OpenSpec.ofChange Rows.sourceBackSpec) false w args)
      (Rows.sourceBackSpec.post enc Tryd.prog Tryd.f3 false true false false) := by
  refine returnsInHanded_of_change_and (C := Tryd.checked) (X := fun w _ => laidMetH Tryd.prog Rows.sourceBackRow.laid w) (fun _ _ _ hh h => h.of_heap hh) own started (by kernel_rfl) Tryd.func3
    (ChangeSpec.witness_shaped (enc := enc) (C := Tryd.checked) (os := os) (X := fun w _ => laidMetH Tryd.prog Rows.sourceBackRow.laid w) false (World.laidAll Tryd.prog os Rows.sourceBackRow.laid) #[.string ⟨#[]⟩, .int .i64 0] 8 (World.laidAll_os _ _ _)
      (World.shaped_of_ZipB (by kernel_rfl) (by kernel_rfl)) (by kernel_rfl) (by kernel_rfl) (by kernel_rfl)
      (by rw [MakeChecks.laidMetH_plain _ _ _ (by kernel_rfl)]; exact laidMet_laidAll _ (by kernel_rfl) (by kernel_rfl))) ?_
  intro W base args ds gs before hval0 hW _ _ _ _
  have hval : ∀ (j : Nat) t v, Tryd.f3.params[j]? = some t → args[j]? = some v → Value.okWide Tryd.prog W .any base t v := hval0
  have hW' := hW
  obtain ⟨p, q, hA0, hV, hbef, hfz, hnd⟩ := hW
  have hA : DataW.TrodAll enc Tryd.prog W 0 (fun _ => true) true Tryd.f3.params.toList args.toList ds p := hA0
  rw [Tryd.params3] at hA hval
  obtain ⟨v0, vs0, d0, ds0, p0, q0, hargs, hds, rfl, h0, r0⟩ := trodAll_cons hA
  obtain ⟨v1, vs1, d1, ds1, p1, q1, rfl, rfl, rfl, h1, r1⟩ := trodAll_cons r0
  obtain ⟨rfl, rfl, rfl⟩ := trodAll_nil r1
  obtain rfl : args = #[v0, v1] := by cases args; simp_all
  obtain ⟨rfl, _⟩ := trodVars_none hV
  subst hds
  obtain ⟨a0, rfl, rfl, rfl, s0⟩ := open_string Tryd.underlying9 (hval 0 9 v0 rfl rfl) h0
  obtain ⟨a1, rfl, rfl, rfl, s1⟩ := open_int Tryd.underlying3 (hval 1 3 v1 rfl rfl) h1
  refine (walk a0 a1 W).mono fun e W' ⟨he, hb⟩ => ?_
  subst he
  exact ⟨_, rfl, law_post laid (by kernel_rfl) rfl Tryd.underlying4 rfl rfl rfl rfl hW' hb⟩

theorem over : Rows.sourceBackRow.holds Tryd.pinned (OpenSpec.ofChange Rows.sourceBackSpec) :=
  OpenClaim.holds_of_wide 3 Tryd.f3 rfl rfl rfl rfl rfl rfl rfl ⟨rfl, rfl, rfl, rfl, rfl⟩ rfl rfl rfl rfl rfl (by kernel_rfl) Tryd.func3 (by kernel_rfl)
    (of_decide_eq_true (by kernel_rfl)) (by unfold Func.isWrapper; first | (rw [if_pos (by decide +kernel)]; kernel_rfl) | (rw [if_neg (by decide +kernel)]; exact ⟨rfl, rfl⟩))
    (fun os started H enc _ => lifted os started H enc)

theorem proved : Rows.SourceBackCardSaid :=
  Claim7.holds_tied_plain_at .later [] [.data, .pinned] true Rows.sourceBackCard.stood.harness false over (fun _ h => by cases h) (by kernel_rfl) (fun _ h => by cases h) sourceBack_row_tie rfl ⟨rfl, rfl⟩ (by kernel_rfl) rfl
    (fun f fn hf hfn => by
      obtain rfl : f = 3 := Option.some.inj ((show Tryd.prog.funcNamed Tryd.f3.name = some 3 by kernel_rfl).symm.trans hf) |>.symm
      obtain rfl : fn = Tryd.f3 := (Option.some.inj (Tryd.func3.symm.trans hfn)).symm
      exact ⟨by kernel_rfl, fun j t ht => by
        rw [Tryd.params3] at ht
        have hm : t ∈ [9, 3] := by simpa using Array.mem_of_getElem? ht
        have hall : ([9, 3].all fun u => !Tryd.prog.wantsStandIn u) = true := by kernel_rfl
        exact (show Tryd.prog.wantsStandIn t = false by simpa using List.all_eq_true.1 hall t hm)⟩)
    (by kernel_rfl)
#print axioms proved
end Go.Proofs.YteggjabfgffcfaaDoor.sourceBack
