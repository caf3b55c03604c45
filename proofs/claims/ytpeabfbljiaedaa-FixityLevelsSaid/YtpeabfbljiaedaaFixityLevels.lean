/- FixityLevels: for every table and sequence the law returns true: an operator below another one has a greater level, or the same one on the side of its fixity. No conditions. -/
import Derived.Test.YtpeabfbljiaedaaFixBuild
namespace Go.Proofs.Ytpeabfbljiaedaa.fixityLevels
open Go.ChangeShapes Go.WideShapes Go.ChangeAt Go.RowKit Go.Shelf

theorem own : ownKnob Try.prog.godebug = none := by kernel_rfl

theorem build_ok {T : List FixSig} {I : List FixItem} (h : (fixBuild T I).2 = 0) : NodesOk T I (fixBuild T I).1 ∧ (fixBuild T I).1.length ≤ 1000 := by
  unfold fixBuild at h ⊢
  by_cases c1 : fixCheck T ≠ 0
  · rw [if_pos c1] at h; exact absurd h c1
  · rw [if_neg c1] at h ⊢
    by_cases c2 : 400 < I.length
    · rw [if_pos c2] at h; simp at h
    · rw [if_neg c2] at h ⊢
      by_cases c3 : I.length % 2 = 0
      · rw [if_pos c3] at h; simp at h
      · rw [if_neg c3] at h ⊢
        by_cases c4 : fixAltFrom 0 I = false
        · rw [if_pos c4] at h; simp at h
        · rw [if_neg c4] at h ⊢
          by_cases c5 : (fixRun T I).1.e ≠ 0
          · rw [if_pos c5] at h; exact absurd h c5
          · rw [if_neg c5]
            refine ⟨(fixRun_out (by omega) (by omega) (by simpa using c4)).ok, ?_⟩
            have := fixLoop_grow T I (by omega) I.length 0 fixStart fixStart 0 (readLeaf I ⟨0, [], 0⟩) (by simp [readLeaf]) (by simp [readLeaf]; omega)
            have e : fixLoop T I I.length 0 fixStart fixStart 0 (readLeaf I ⟨0, [], 0⟩) = fixRun T I := rfl
            rw [e] at this
            simp [readLeaf] at this
            show (fixRun T I).1.out.length ≤ 1000
            omega

set_option maxRecDepth 100000 in
set_option maxHeartbeats 1000000 in
theorem walk (T : List FixSig) (I : List FixItem) (tv iv : Value) (w : World) (hT : Sl w (· < w.heap.size) FixSig.d T tv) (hI : Sl w (· < w.heap.size) FixItem.d I iv) :
    Calls Try.prog 7 #[tv, iv] w fun e w' => e = .returned (.bool true) ∧ Below w.heap.size w w' := by
  have H0 := Lib.hid (show Calls Try.prog 26 #[.slice none 0 0, .string ⟨#[43]⟩] w (fun e w' => e = .returned (.agg #[.string ⟨#[43]⟩, .int .i64 0, .int .i64 9]) ∧ Below w.heap.size w w') from
    fixFind_any [] ⟨#[43]⟩ (.slice none 0 0) (fun _ => False) w Sl.nil_)
  have HB := Lib.hid (fun (W : World) (hb : Below w.heap.size w W) => build_any T I tv iv (· < w.heap.size) W (hT.later hb) (hI.later hb) (fun b h => Nat.lt_of_lt_of_le h hb.size))
  have HF := Lib.hid (fun (W : World) (hb : Below w.heap.size w W) (op : ByteArray) => fixFind_any T op tv (· < w.heap.size) W (hT.later hb))
  have hi0 : ∀ (W : World) (p q : Value), (Instr.index 54 (.agg #[p, q]) (.int .i64 0)).run Try.prog W = .ok p W := fun _ _ _ => by kernel_rfl
  have hi1 : ∀ (W : World) (p q : Value), (Instr.index 54 (.agg #[p, q]) (.int .i64 1)).run Try.prog W = .ok q W := fun _ _ _ => by kernel_rfl
  have hfd : ∀ (W : World) (a b c : Value), (Instr.field 47 (.agg #[a, b, c]) 2).run Try.prog W = .ok c W := fun _ _ _ _ => by kernel_rfl
  obtain ⟨r, hr⟩ : ∃ r, fixBuild T I = r := ⟨_, rfl⟩
  have HO : r.2 = 0 → NodesOk T I r.1 ∧ r.1.length ≤ 1000 := by rw [← hr]; exact build_ok
  rw [hr] at HB
  clear hr
  go_enter Try.func7, Try.ntmps7
  go_wp2_with fail
  refine H0.out.mono ?_
  rintro e w1 ⟨rfl, hb1⟩
  go_wp2_with fail
  refine (HB.out _ hb1).mono ?_
  rintro e w2 ⟨v, rfl, hv, hb2⟩
  by_cases he : r.2 = 0
  · have e0 : (r.2 != 0) = false := by simpa using he
    obtain ⟨hok, hlen⟩ := HO he
    clear he HO
    have hbb := hb1.trans (hb2.mono hb1.size)
    obtain ⟨vA, vc, rfl, hvc, hvcm, _⟩ := hv.form
    go_wp2_with fail
    go_loopw [27] (fun i wr => ∃ k : Nat, k ≤ r.1.length ∧ i = .int .i64 k ∧ Below w2.heap.size w2 wr) (fun i _ => r.1.length - (intOf i).toNat)
    case atStart => exact ⟨0, Nat.zero_le _, rfl, Below.refl _ _⟩
    case round =>
      obtain ⟨wo, rfl⟩ : ∃ wo : World, wo = wr := ⟨_, rfl⟩
      obtain ⟨k, hk, rfl, hb⟩ := hrel
      by_cases hlt : k < r.1.length
      · obtain ⟨g, off, rfl, _, c0, c1, c2, c3, _⟩ := FixNode.get (hv.later hb) hlt
        have hz := hb.size
        have hnk := hok k hlt
        have hat : nodeAt r.1 k = r.1[k] := by simp [nodeAt, hlt]
        unfold NodeOk at hnk
        rw [hat] at hnk
        clear hat
        rcases hnk with ⟨h1, _⟩ | ⟨h1, _, _, a, b, ha, hb', hab, hbb', hl, hrr⟩
        · have s0 : r.1[k].op.toList.isEmpty = true := by rw [toList_noOp.2 h1]; rfl
          clear h1
          go_wp2_with fail
          go_roundw
          case rel => exact ⟨k + 1, by omega, by go_num, hb.alloc (by omega) _⟩
          case measure => simp [intOf]; omega
        · have s0 : r.1[k].op.toList.isEmpty = false := by
            cases h : r.1[k].op.toList with
            | nil => exact absurd (toList_noOp.1 h) h1
            | cons _ _ => rfl
          clear h1
          rw [ha] at c2
          rw [hb'] at c3
          clear ha hb'
          obtain ⟨x, hx⟩ : ∃ x, fixFind T r.1[k].op = x := ⟨_, rfl⟩
          rw [hx] at hl hrr
          have HX := Lib.hid hx
          clear hx
          go_wp2_with fail
          have hbo := hbb.trans (hb.mono hbb.size)
          have hba : Below w.heap.size w (wo.alloc (.cells #[.string r.1[k].op, .int .i64 0, .int .i64 a, .int .i64 b] 53)) := hbo.alloc hbo.size _
          have hX := HF.out _ hba r.1[k].op
          rw [HX.out] at hX
          unfold FixSig.v at hX
          refine hX.mono ?_
          rintro e w3 ⟨rfl, hb3⟩
          have hbn := (Blk.new wo 53 [.string r.1[k].op, .int .i64 0, .int .i64 a, .int .i64 b]).later hb3
          have n2 := hbn.cell (i := 2) rfl
          have n3 := hbn.cell (i := 3) rfl
          have hz3 : wo.heap.size < w3.heap.size := hbn.lt
          have hb3o : Below wo.heap.size wo w3 := ((Below.refl wo.heap.size wo).alloc (Nat.le_refl _) _).trans (hb3.mono (by simp))
          have hb4 : Below wo.heap.size wo (w3.alloc (.cells #[.string x.op, .int .i64 x.side, .int .i64 x.level] 47)) := hb3o.alloc (by omega) _
          clear hX
          go_wp2_with fail
          go_loopw [43] (fun i wi => (i = .int .i64 0 ∨ i = .int .i64 1 ∨ i = .int .i64 2) ∧ Below (w3.heap.size + 1) (w3.alloc (.cells #[.string x.op, .int .i64 x.side, .int .i64 x.level] 47)) wi) (fun i _ => 2 - (intOf i).toNat)
          case atStart => exact ⟨.inl rfl, Below.refl _ _⟩
          case round =>
            obtain ⟨hj, hwi⟩ := hrel
            have hbx := (Blk.new w3 47 [.string x.op, .int .i64 x.side, .int .i64 x.level]).below hwi (by omega)
            have x1 := hbx.cell (i := 1) rfl
            have x2 := hbx.cell (i := 2) rfl
            have hwo : Below wo.heap.size wo wr := hb4.trans (hwi.mono (by omega))
            have hzi := hwi.size
            have hzi' : w3.heap.size + 1 ≤ wr.heap.size := by simp at hzi; omega
            rcases hj with rfl | rfl | rfl
            · obtain ⟨g', off', hA, _, j0, _⟩ := FixNode.get ((hv.later hb).later hwo) (show a < r.1.length by omega)
              simp only [Option.some.injEq, Addr.mk.injEq, and_true] at hA
              obtain ⟨rfl, rfl⟩ := hA
              have hca : nodeAt r.1 a = r.1[a]'(by omega) := by simp [nodeAt, show a < r.1.length by omega]
              rw [hca] at hl
              have q0 : (0 : Int) ≤ (a : Int) := by omega
              have q1 : (a : Int) < (r.1.length : Int) := by omega
              obtain ⟨nd, hnd⟩ : ∃ nd, r.1[a]'(by omega) = nd := ⟨_, rfl⟩
              rw [hnd] at j0 hl
              clear hnd hca
              by_cases hno : nd.op = noOp
              · have s1 : nd.op.toList.isEmpty = true := by rw [toList_noOp.2 hno]; rfl
                clear hno hl
                go_wp2_with fail
                go_roundw
                case rel => exact ⟨by simp, hwi⟩
                case measure => simp [intOf]
              · have s1 : nd.op.toList.isEmpty = false := by
                  cases h : nd.op.toList with
                  | nil => exact absurd (toList_noOp.1 h) hno
                  | cons _ _ => rfl
                have hlo := hl hno
                clear hno hl
                obtain ⟨y, hy⟩ : ∃ y, fixFind T nd.op = y := ⟨_, rfl⟩
                rw [hy] at hlo
                have hY := HF.out wr (hbo.trans (hwo.mono hbo.size)) nd.op
                rw [hy] at hY
                unfold FixSig.v at hY
                have HY := Lib.hid hY
                clear hY hy
                rcases hlo with hlt2 | ⟨p1, p2, p3⟩
                · have t1 : (y.level == x.level) = false := by rw [beq_eq_false_iff_ne]; omega
                  go_wp2_with fail
                  refine HY.out.mono ?_
                  rintro e w5 ⟨rfl, hb5⟩
                  have hbx5 := hbx.later hb5
                  have x1' := hbx5.cell (i := 1) rfl
                  have x2' := hbx5.cell (i := 2) rfl
                  have hz5 := hb5.size
                  have hz6 : w3.heap.size < w5.heap.size := by omega
                  go_wp2
                  go_roundw
                  case rel => exact ⟨by simp, hwi.trans ((hb5.mono hzi').alloc (by omega) _)⟩
                  case measure => simp [intOf]
                · have t1 : (y.level == x.level) = true := by rw [beq_iff_eq]; exact p1
                  have t2 : (y.side == x.side) = true := by rw [beq_iff_eq]; exact p2
                  have t3 : (x.side == 0) = true := by rw [beq_iff_eq]; exact p3
                  have t4 : (x.side == 1) = false := by rw [beq_eq_false_iff_ne]; omega
                  have t5 : ¬ y.level < x.level := by omega
                  clear p1 p2 p3
                  go_wp2_with fail
                  refine HY.out.mono ?_
                  rintro e w5 ⟨rfl, hb5⟩
                  have hbx5 := hbx.later hb5
                  have x1' := hbx5.cell (i := 1) rfl
                  have x2' := hbx5.cell (i := 2) rfl
                  have hz5 := hb5.size
                  have hz6 : w3.heap.size < w5.heap.size := by omega
                  go_wp2
                  go_roundw
                  case rel => exact ⟨by simp, hwi.trans ((hb5.mono hzi').alloc (by omega) _)⟩
                  case measure => simp [intOf]
            · obtain ⟨g', off', hA, _, j0, _⟩ := FixNode.get ((hv.later hb).later hwo) (show b < r.1.length by omega)
              simp only [Option.some.injEq, Addr.mk.injEq, and_true] at hA
              obtain ⟨rfl, rfl⟩ := hA
              have hca : nodeAt r.1 b = r.1[b]'(by omega) := by simp [nodeAt, show b < r.1.length by omega]
              rw [hca] at hrr
              have q0 : (0 : Int) ≤ (b : Int) := by omega
              have q1 : (b : Int) < (r.1.length : Int) := by omega
              obtain ⟨nd, hnd⟩ : ∃ nd, r.1[b]'(by omega) = nd := ⟨_, rfl⟩
              rw [hnd] at j0 hrr
              clear hnd hca
              by_cases hno : nd.op = noOp
              · have s1 : nd.op.toList.isEmpty = true := by rw [toList_noOp.2 hno]; rfl
                clear hno hrr
                go_wp2_with fail
                go_roundw
                case rel => exact ⟨by simp, hwi⟩
                case measure => simp [intOf]
              · have s1 : nd.op.toList.isEmpty = false := by
                  cases h : nd.op.toList with
                  | nil => exact absurd (toList_noOp.1 h) hno
                  | cons _ _ => rfl
                have hlo := hrr hno
                clear hno hrr
                obtain ⟨y, hy⟩ : ∃ y, fixFind T nd.op = y := ⟨_, rfl⟩
                rw [hy] at hlo
                have hY := HF.out wr (hbo.trans (hwo.mono hbo.size)) nd.op
                rw [hy] at hY
                unfold FixSig.v at hY
                have HY := Lib.hid hY
                clear hY hy
                rcases hlo with hlt2 | ⟨p1, p2, p3⟩
                · have t1 : (y.level == x.level) = false := by rw [beq_eq_false_iff_ne]; omega
                  go_wp2_with fail
                  refine HY.out.mono ?_
                  rintro e w5 ⟨rfl, hb5⟩
                  have hbx5 := hbx.later hb5
                  have x1' := hbx5.cell (i := 1) rfl
                  have x2' := hbx5.cell (i := 2) rfl
                  have hz5 := hb5.size
                  have hz6 : w3.heap.size < w5.heap.size := by omega
                  go_wp2
                  go_roundw
                  case rel => exact ⟨by simp, hwi.trans ((hb5.mono hzi').alloc (by omega) _)⟩
                  case measure => simp [intOf]
                · have t1 : (y.level == x.level) = true := by rw [beq_iff_eq]; exact p1
                  have t2 : (y.side == x.side) = true := by rw [beq_iff_eq]; exact p2
                  have t3 : (x.side == 1) = true := by rw [beq_iff_eq]; exact p3
                  have t4 : (x.side == 0) = false := by rw [beq_eq_false_iff_ne]; omega
                  have t5 : ¬ y.level < x.level := by omega
                  clear p1 p2 p3
                  go_wp2_with fail
                  refine HY.out.mono ?_
                  rintro e w5 ⟨rfl, hb5⟩
                  have hbx5 := hbx.later hb5
                  have x1' := hbx5.cell (i := 1) rfl
                  have x2' := hbx5.cell (i := 2) rfl
                  have hz5 := hb5.size
                  have hz6 : w3.heap.size < w5.heap.size := by omega
                  go_wp2
                  go_roundw
                  case rel => exact ⟨by simp, hwi.trans ((hb5.mono hzi').alloc (by omega) _)⟩
                  case measure => simp [intOf]
            · go_wp2_with fail
              go_roundw
              case rel => exact ⟨k + 1, by omega, by go_num, hb.trans (hwo.mono hb.size)⟩
              case measure => simp [intOf]; omega
      · go_wp2
        go_ret
        exact ⟨rfl, hbb.trans (hb.mono hbb.size)⟩
  · have e0 : (r.2 != 0) = true := by simpa using he
    clear he HO
    go_wp2
    go_ret
    exact ⟨rfl, hb1.trans (hb2.mono hb1.size)⟩

theorem laid : laidOutB Try.prog = true := by kernel_rfl

set_option maxRecDepth 100000 in
theorem lifted (os : Os) (started : os.Started) (H : Type) (enc : TypeId × Value → H) :
    ReturnsInHanded {} Try.checked os 7 .any (Rows.fixityLevelsSpec.pre6 enc Try.prog Try.f7 Rows.fixityLevelsRow.domain false) (Rows.fixityLevelsSpec.post enc Try.prog Try.f7 false true false false) := by
  refine returnsInHanded_of_change (C := Try.checked) own started (by kernel_rfl) Try.func7
    (ChangeSpec.witness6 (enc := enc) (C := Try.checked) false ⟨#[], #[.slice none 0 0, .slice none 0 0], []⟩ 8 (by kernel_rfl) (by kernel_rfl) (by kernel_rfl) (by kernel_rfl)) ?_
  intro W base args ds gs before hval0 hW hcnd _
  have hval : ∀ (j : Nat) t v, Try.f7.params[j]? = some t → args[j]? = some v → Value.okWide Try.prog W .any base t v := hval0
  have hW' := hW
  obtain ⟨p, q, hA0, hV, hbef, hfz, hnd⟩ := hW
  have hA : DataW.TrodAll enc Try.prog W 0 (fun _ => true) true Try.f7.params.toList args.toList ds p := hA0
  rw [Try.params7] at hA hval
  obtain ⟨v0, vs0, d0, ds0, p0, q0, hargs, hds, rfl, h0, r0⟩ := trodAll_cons hA
  obtain ⟨v1, vs1, d1, ds1, p1, q1, rfl, rfl, rfl, h1, r1⟩ := trodAll_cons r0
  obtain ⟨rfl, rfl, rfl⟩ := trodAll_nil r1
  obtain rfl : args = #[v0, v1] := by cases args; simp_all
  obtain ⟨rfl, _⟩ := trodVars_none hV
  subst hds
  obtain ⟨a0, s0⟩ := sl_of_arg (f := FixSig.d) (k := 3) Try.underlying44 (by kernel_rfl) (by decide) (fun _ _ _ h => FixSig.of_trod h) (hval 0 44 v0 rfl rfl) h0
  obtain ⟨a1, s1⟩ := sl_of_arg (f := FixItem.d) (k := 2) Try.underlying45 (by kernel_rfl) (by decide) (fun _ _ _ h => FixItem.of_trod h) (hval 1 45 v1 rfl rfl) h1
  refine (walk a0 a1 v0 v1 W s0 s1).mono fun e W' ⟨he, hb⟩ => ?_
  subst he
  exact ⟨_, rfl, law_post laid (by kernel_rfl) rfl Try.underlying4 rfl rfl rfl rfl hW' hb⟩

theorem over : Rows.fixityLevelsRow.holds Try.pinned (OpenSpec.ofChange Rows.fixityLevelsSpec) :=
  OpenClaim.holds_of_wide 7 Try.f7 rfl rfl rfl rfl rfl rfl rfl ⟨rfl, rfl, rfl, rfl, rfl⟩ rfl rfl rfl rfl rfl (by kernel_rfl) Try.func7 (by kernel_rfl)
    (of_decide_eq_true (by kernel_rfl)) (by unfold Func.isWrapper; first | (rw [if_pos (by decide +kernel)]; kernel_rfl) | (rw [if_neg (by decide +kernel)]; exact ⟨rfl, rfl⟩))
    (fun os started H enc _ => lifted os started H enc)

theorem proved : Rows.FixityLevelsSaid :=
  over
#print axioms proved
end Go.Proofs.Ytpeabfbljiaedaa.fixityLevels
