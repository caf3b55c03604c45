/- FixityRenamed: for every table, sequence and number the law returns true: renaming an operator in the table and in the sequence, to one that does not occur, renames it in the tree. No conditions. -/
import Derived.Test.YtpeabfbljiaedaaFixityItems
import Derived.Test.YtpeabfbljiaedaaFixSlB
import Derived.Test.YtpeabfbljiaedaaFixRen
import Derived.Test.YtpeabfbljiaedaaWithin
namespace Go.Proofs.Ytpeabfbljiaedaa.fixityRenamed
open Go.ChangeShapes Go.WideShapes Go.ChangeAt Go.RowKit Go.Shelf

theorem own : ownKnob Try.prog.godebug = none := by kernel_rfl

theorem c3_tree : (fixBuild [] c3).2 = 0 ∧ (fixBuild [] c3).1.length = 3 ∧ ∀ x, (fixBuild [] c3).1[2]? = some x → x.op = ⟨#[43]⟩ := by
  obtain ⟨h1, h2⟩ := c3_build
  refine ⟨h1, h2, ?_⟩
  have h := built_of h1
  rw [h.tree]
  unfold fixRun c3
  simp [fixLoop, readLeaf, fixFind, opAt, fixAgainst, fixStart]

theorem newOp_len : newOp.size ≤ maxLen := by show 7 ≤ maxLen; unfold maxLen; omega
theorem ren_len {old op : ByteArray} (h : op.size ≤ maxLen) : (ren old op).size ≤ maxLen := by
  unfold ren; split
  · exact newOp_len
  · exact h
theorem ren_sig_ok {old : ByteArray} {x : FixSig} (h : SigOk x) : SigOk (renSig old x) := ⟨ren_len h.1, h.2⟩
theorem ren_item_ok {old : ByteArray} {x : FixItem} (h : ItemOk x) : ItemOk (renItem old x) := ⟨ren_len h.1, h.2⟩
def NodeWf (x : FixNode) : Prop := x.op.size ≤ maxLen ∧ (Lit.int .i64 x.n).wf = true ∧ (Lit.int .i64 x.a).wf = true ∧ (Lit.int .i64 x.b).wf = true
theorem ren_node_ok {old : ByteArray} {x : FixNode} (h : NodeWf x) : NodeWf (renNode old x) := ⟨ren_len h.1, h.2⟩
theorem hnrp : ∀ (l : List FixNode), (∀ x ∈ l, NodeWf x) → ∀ (w : World) {F : Nat → Prop}, RpAll w F (l.map FixNode.d) (l.flatMap FixNode.cells)
  | [], _, _, _ => by simp [RpAll]
  | x :: l, h, w, F => by
    rw [List.map_cons, rpAll_cons]
    exact ⟨x.cells, l.flatMap FixNode.cells, by simp, FixNode.rp.2 ⟨rfl, h x (by simp)⟩, hnrp l (fun y hy => h y (by simp [hy])) w⟩
theorem nodes_ok {w : World} {F : Nat → Prop} {t : List FixNode} {v : Value} (h : Sl w F FixNode.d t v) : ∀ x ∈ t, NodeWf x := by
  intro x hx
  obtain ⟨A, c, rfl, _⟩ := h.form
  obtain ⟨i, hi, rfl⟩ := List.getElem_of_mem hx
  obtain ⟨_, _, _, _, _, _, _, _, h1⟩ := FixNode.get h hi
  exact h1

def isNew (y : FixSig) : Bool := y.op.toList == [114, 101, 110, 97, 109, 101, 100]
def isNewI (y : FixItem) : Bool := y.op.toList == [114, 101, 110, 97, 109, 101, 100]
theorem newOp_list : newOp.toList = [114, 101, 110, 97, 109, 101, 100] := by rw [ByteArray.toList_eq]; rfl
set_option maxHeartbeats 400000 in
theorem lit1_any (y : FixSig) (w : World) : Calls Try.prog 32 #[.agg #[.string y.op, .int .i64 y.side, .int .i64 y.level]] w fun e w' => e = .returned (.bool (isNew y)) ∧ Below w.heap.size w w' := by
  go_enter Try.func32, Try.ntmps32
  go_wp2
  go_ret
  exact ⟨rfl, (Below.refl _ _).alloc (Nat.le_refl _) _⟩
set_option maxHeartbeats 400000 in
theorem lit2_any (y : FixItem) (w : World) : Calls Try.prog 34 #[.agg #[.string y.op, .int .i64 y.n]] w fun e w' => e = .returned (.bool (isNewI y)) ∧ Below w.heap.size w w' := by
  go_enter Try.func34, Try.ntmps34
  go_wp2
  go_ret
  exact ⟨rfl, (Below.refl _ _).alloc (Nat.le_refl _) _⟩

set_option maxRecDepth 100000 in
set_option maxHeartbeats 2000000 in
theorem walk (T : List FixSig) (I : List FixItem) (n : Int) (tv iv : Value) (w : World) (hT : Sl w (· < w.heap.size) FixSig.d T tv) (hI : Sl w (· < w.heap.size) FixItem.d I iv) (hrT : T.length * 32 ≤ 140737488351232) (hrI : I.length * 24 ≤ 140737488351232) :
    Calls Try.prog 9 #[tv, iv, .int .i64 n] w fun e w' => e = .returned (.bool true) ∧ Below w.heap.size w w' := by
  have hb0 : Below w.heap.size w (w.alloc (.cells #[.string ⟨#[]⟩, .int .i64 1, .string ⟨#[43]⟩, .int .i64 0, .string ⟨#[]⟩, .int .i64 2] 57)) := (Below.refl _ _).alloc (Nat.le_refl _) _
  have H0 : Calls Try.prog 27 #[.slice none 0 0, .slice (some ⟨w.heap.size, 0, none⟩) 3 3] (w.alloc (.cells #[.string ⟨#[]⟩, .int .i64 1, .string ⟨#[43]⟩, .int .i64 0, .string ⟨#[]⟩, .int .i64 2] 57))
      (BuildPost (fixBuild [] c3) (w.alloc (.cells #[.string ⟨#[]⟩, .int .i64 1, .string ⟨#[43]⟩, .int .i64 0, .string ⟨#[]⟩, .int .i64 2] 57))) := by
    refine build_any [] c3 _ _ (fun b => b = w.heap.size) _ Sl.nil_ ?_ (fun b h => by subst h; simp)
    refine Sl.of_own (F := fun _ => False) (World.ownsRow_lit (base := 0) (e := 57) (size := 2) w #[.string ⟨#[]⟩, .int .i64 1, .string ⟨#[43]⟩, .int .i64 0, .string ⟨#[]⟩, .int .i64 2] 3 (Nat.zero_le _) (by unfold maxLen; omega) (by simp)) rfl ?_ (fun _ h => h.elim) (fun b h => ?_)
    · exact items_rp c3 (fun x hx => by
        simp only [c3, List.mem_cons, List.not_mem_nil, or_false] at hx
        rcases hx with rfl | rfl | rfl <;> exact ⟨by show _ ≤ maxLen; unfold maxLen; decide, by decide⟩)
    · have h2 : some w.heap.size = some b := h
      injection h2 with h2
      exact h2.symm
  obtain ⟨r0, hr0⟩ : ∃ r0, fixBuild [] c3 = r0 := ⟨_, rfl⟩
  have hc3 := c3_tree
  rw [hr0] at H0 hc3
  obtain ⟨z0, z1, z4⟩ := hc3
  have z2 : (r0.2 != 0) = false := by simpa using z0
  have z3 : ((r0.1.length : Int) != 3) = false := by rw [z1]; rfl
  have z5 : 2 < r0.1.length := by omega
  have z6 : (r0.1[2].op.toList == ([43] : List UInt8)) = true := by
    rw [z4 _ (List.getElem?_eq_getElem z5), ByteArray.toList_eq]; rfl
  have z7 : (2 : Int) < (r0.1.length : Int) := by omega
  have H0' := Lib.hid H0
  clear H0 hr0 z0 z1 z4
  obtain ⟨tA, tc, rfl, htc, htcm, _⟩ := hT.form
  have hl1 : T.length ≤ 4398046511104 := by omega
  have hl2 : I.length ≤ 5864062014636 := by omega
  go_enter Try.func9, Try.ntmps9
  go_wp2_with fail
  refine H0'.out.mono ?_
  rintro e w1 ⟨v1, rfl, hv1, hb1⟩
  have hbw1 : Below w.heap.size w w1 := hb0.trans (hb1.mono hb0.size)
  obtain ⟨A1, k1, rfl, _⟩ := hv1.form
  obtain ⟨g1, o1, rfl, _, q0, _⟩ := FixNode.get hv1 z5
  by_cases hemp : T.length = 0
  · have e0 : ((T.length : Int) == 0) = true := by rw [hemp]; rfl
    clear hemp
    go_wp2_with fail
    go_ret
    exact ⟨rfl, hbw1⟩
  · have e0 : ((T.length : Int) == 0) = false := by rw [beq_eq_false_iff_ne]; omega
    have hlo := withinI_lo n 0 ((T.length : Int) - 1) (by omega)
    have hhi := withinI_hi n 0 ((T.length : Int) - 1) (by omega)
    obtain ⟨k, hk⟩ : ∃ k : Nat, withinI n 0 ((T.length : Int) - 1) = k := ⟨(withinI n 0 ((T.length : Int) - 1)).toNat, by omega⟩
    have HW := fun (W : World) => within_any n 0 ((T.length : Int) - 1) W (by omega) (by omega) (by omega) (by omega)
    rw [hk] at HW hlo hhi
    have hkl : k < T.length := by omega
    have hp1 : (0 : Int) ≤ (T.length : Int) - 1 := by omega
    obtain ⟨g2, o2, rfl, _, c0, _⟩ := FixSig.get (hT.later hbw1) hkl
    have q1 : (0 : Int) ≤ (k : Int) := by omega
    have q2 : (k : Int) < (T.length : Int) := by omega
    have HWW := Lib.hid HW
    clear HW hk hemp hlo hhi
    obtain ⟨old, hold⟩ : ∃ old, T[k].op = old := ⟨_, rfl⟩
    rw [hold] at c0
    have HMEM := Lib.hid hold
    clear hold
    go_wp2_with fail
    refine (HWW.out _).mono ?_
    rintro e w1' ⟨rfl, rfl⟩
    by_cases hno : old = noOp
    · have s0 : old.toList.isEmpty = true := by rw [toList_noOp.2 hno]; rfl
      clear hno
      go_wp2_with fail
      go_ret
      exact ⟨rfl, hbw1⟩
    · have s0 : old.toList.isEmpty = false := by
        cases h : old.toList with
        | nil => exact absurd (toList_noOp.1 h) hno
        | cons _ _ => rfl
      have Hold := Lib.hid hno
      clear hno
      have eg1 : Enters Try.prog 32 := enters_of Try.func32 (by kernel_rfl) rfl
      have eg2 : Enters Try.prog 34 := enters_of Try.func34 (by kernel_rfl) rfl
      have HC1 := sigContainsFunc T _ (· < w.heap.size) w1 (hT.later hbw1) 32 #[] isNew eg1 (by
        intro i hi cs W hW hrp
        rw [FixSig.rp] at hrp
        obtain ⟨rfl, _⟩ := hrp
        exact lit1_any _ _)
      cases ht1 : T.any isNew
      · rw [ht1] at HC1
        have HTn := Lib.hid (show ∀ x ∈ T, x.op ≠ newOp from fun x hx he => by
          have := List.any_eq_false.1 ht1 x hx
          exact this (by unfold isNew; rw [he, newOp_list]; rfl))
        have HCC1 := Lib.hid HC1
        clear HC1 ht1 eg1
        go_wp2_with fail
        refine HCC1.out.mono ?_
        rintro e w2 ⟨rfl, hb2⟩
        have hbw2 : Below w.heap.size w w2 := hbw1.trans (hb2.mono hbw1.size)
        have HC2 := itemContainsFunc I _ (· < w.heap.size) w2 (hI.later hbw2) 34 #[] isNewI eg2 (by
          intro i hi cs W hW hrp
          rw [FixItem.rp] at hrp
          obtain ⟨rfl, _⟩ := hrp
          exact lit2_any _ _)
        cases ht2 : I.any isNewI
        · rw [ht2] at HC2
          have HIn := Lib.hid (show ∀ x ∈ I, x.op ≠ newOp from fun x hx he => by
            have := List.any_eq_false.1 ht2 x hx
            exact this (by unfold isNewI; rw [he, newOp_list]; rfl))
          have HCC2 := Lib.hid HC2
          clear HC2 ht2 eg2
          go_wp2_with fail
          refine HCC2.out.mono ?_
          rintro e w3 ⟨rfl, hb3'⟩
          have hbw3 : Below w.heap.size w w3 := hbw2.trans (hb3'.mono hbw2.size)
          have hb3z := hbw3.size
          have HB := build_own T I _ iv (· < w.heap.size) w3 (hT.later hbw3) (hI.later hbw3) (fun b h => Nat.lt_of_lt_of_le h hb3z)
          obtain ⟨r, hr⟩ : ∃ r, fixBuild T I = r := ⟨_, rfl⟩
          rw [hr] at HB
          have HBB := Lib.hid HB
          clear HB
          have HRR := Lib.hid hr
          clear hr
          go_wp2_with fail
          refine HBB.out.mono ?_
          rintro e w4 ⟨v4, rfl, hv4, hb4, hown40⟩
          have hnok := nodes_ok hv4
          obtain ⟨A4, k4, rfl, hv4c, hv4m, _⟩ := hv4.form
          have hbw4 : Below w.heap.size w w4 := hbw3.trans (hb4.mono hb3z)
          have hz4w := hbw4.size
          have HCT := Lib.hid (sigClone T _ (· < w.heap.size) w4 (hT.later hbw4) (fun b h => Nat.lt_of_lt_of_le h hz4w) (by omega))
          go_wp2_with fail
          refine HCT.out.mono ?_
          rintro e w5 ⟨v5, xs5, rfl, hownT5, hrp5, hb5⟩
          obtain ⟨rfl, hTok⟩ := sigs_of_rp T xs5 hrp5
          obtain ⟨A5, k5, rfl⟩ := own_slice hownT5
          have hbw5 : Below w.heap.size w w5 := hbw4.trans (hb5.mono hz4w)
          have hz5w := hbw5.size
          have HCI := Lib.hid (itemClone I iv (· < w.heap.size) w5 (hI.later hbw5) (fun b h => Nat.lt_of_lt_of_le h hz5w) (by omega))
          go_wp2_with fail
          refine HCI.out.mono ?_
          rintro e w6 ⟨v6, xs6, rfl, hownI6, hrp6, hb6'⟩
          obtain ⟨rfl, hIok⟩ := itemCells_rp I xs6 hrp6
          obtain ⟨A6, k6, rfl⟩ := own_slice hownI6
          have hb6 : Below w.heap.size w w6 := hbw5.trans (hb6'.mono hz5w)
          have hownT6 := own_keeps (X := fun _ => False) hownT5 (Keeps.of_below hb6') (fun _ _ h => h)
          have hown46 := own_keeps (X := fun _ => False) (own_keeps (X := fun _ => False) hown40 (Keeps.of_below hb5) (fun _ _ h => h)) (Keeps.of_below hb6') (fun _ _ h => h)
          have hz45 := hb5.size
          have hz56 := hb6'.size
          have hr := HRR.out
          have hrl0 : r.1.length ≤ 9223372036854775807 := by unfold maxLen at hv4m; omega
          clear hrp5 hrp6 hb1 hb0 HWW HCC1 HCC2 HBB HCT HCI q0 c0
          have HRX := Lib.hid hr
          clear hr
          go_wp2_with fail
          have hlp : T.length ≤ 9223372036854775807 := by omega
          go_loopw [73] (fun i wr => ∃ k : Nat, k ≤ T.length ∧ i = .int .i64 k ∧ wr.ownsRow w4.heap.size 47 3 (.slice A5 T.length k5) T.length ((part (renSig old) T k).flatMap FixSig.cells) ∧ Keeps (fun b => (Value.slice A5 T.length k5).ownBlock = some b) w6 wr) (fun i _ => T.length - (intOf i).toNat)
          case atStart => exact ⟨0, Nat.zero_le _, rfl, by rw [part_zero]; exact hownT6, Keeps.refl _ _⟩
          case round =>
            obtain ⟨k, hk, rfl, hown0, hkp⟩ := hrel
            by_cases hlt : k < T.length
            · obtain ⟨g, cap, hA, hgb, hgl⟩ := hown0.form (by omega)
              simp only [Value.slice.injEq, true_and] at hA
              obtain ⟨rfl, rfl⟩ := hA
              have hsk := part_get (renSig old) T k k hlt
              rw [if_neg (by omega)] at hsk
              have y0 := flat_get (c := FixSig.cells) (kk := 3) (fun _ => rfl) _ k _ hsk 0 (by omega)
              have j0 := (hown0.cellAt (k * 3) (by omega)).trans y0
              have j1 : wr.cell? ⟨g, k * 3, none⟩ = some (.string T[k].op) := j0
              have m0 := hown0.frozenAt (k * 3)
              have k0 : (0 : Int) ≤ (k : Int) := by omega
              have k1 : (k : Int) < (T.length : Int) := by omega
              clear j0 y0
              by_cases hop : T[k].op = old
              · have hs := str_yes hop
                have hst := (hown0.stored (k * 3) (.string newOp)).1
                have hfs := flat_set (c := FixSig.cells) (kk := 3) (fun _ => rfl) _ k _ ((renSig old) T[k]) hsk 0 (.string newOp) (by omega) (by unfold renSig ren; rw [if_pos hop]; rfl)
                rw [Nat.add_zero, ← part_succ (renSig old) T k hlt] at hfs
                rw [hfs] at hst
                have HST := Lib.hid hst
                clear hop hsk hst hfs
                go_wp2_with fail
                go_roundw
                case rel => exact ⟨k + 1, by omega, by go_num, HST.out, hkp.setCell (p := ⟨g, k * 3, none⟩) (fun _ => rfl) _⟩
                case measure => simp [intOf]; omega
              · have hs := str_no hop
                have hps := part_same (renSig old) T k hlt (by unfold renSig ren; rw [if_neg hop])
                have HPS := Lib.hid hps
                clear hop hsk hps
                go_wp2_with fail
                go_roundw
                case rel => exact ⟨k + 1, by omega, by go_num, by rw [HPS.out]; exact hown0, hkp⟩
                case measure => simp [intOf]; omega
            · obtain rfl : k = T.length := by omega
              rw [part_all (renSig old) T _ (Nat.le_refl _)] at hown0
              have hk7 : Keeps (fun b => (Value.slice A5 T.length k5).ownBlock = some b) w6 wr := hkp
              obtain ⟨w7, rfl⟩ : ∃ w7 : World, w7 = wr := ⟨_, rfl⟩
              have hownT7 := hown0
              have hownI7 := own_keeps hownI6 hk7 (own_ne_own hownI6 hownT6 (by decide))
              have hown47 := own_keeps hown46 hk7 (own_ne_own hown46 hownT6 (by decide))
              have hz7 := hk7.size
              have hb7 : Below w.heap.size w w7 := hb6.trans (hk7.below (fun i hi => Nat.le_trans hz4w (hownT6.lt i hi).1) hb6.size)
              go_wp2_with fail
              have hlp : I.length ≤ 9223372036854775807 := by omega
              go_loopw [90] (fun i wr => ∃ k : Nat, k ≤ I.length ∧ i = .int .i64 k ∧ wr.ownsRow w5.heap.size 57 2 (.slice A6 I.length k6) I.length ((part (renItem old) I k).flatMap FixItem.cells) ∧ Keeps (fun b => (Value.slice A6 I.length k6).ownBlock = some b) w7 wr) (fun i _ => I.length - (intOf i).toNat)
              case atStart => exact ⟨0, Nat.zero_le _, rfl, by rw [part_zero]; exact hownI7, Keeps.refl _ _⟩
              case round =>
                obtain ⟨k, hk, rfl, hown0, hkp⟩ := hrel
                by_cases hlt : k < I.length
                · obtain ⟨g, cap, hA, hgb, hgl⟩ := hown0.form (by omega)
                  simp only [Value.slice.injEq, true_and] at hA
                  obtain ⟨rfl, rfl⟩ := hA
                  have hsk := part_get (renItem old) I k k hlt
                  rw [if_neg (by omega)] at hsk
                  have y0 := flat_get (c := FixItem.cells) (kk := 2) (fun _ => rfl) _ k _ hsk 0 (by omega)
                  have j0 := (hown0.cellAt (k * 2) (by omega)).trans y0
                  have j1 : wr.cell? ⟨g, k * 2, none⟩ = some (.string I[k].op) := j0
                  have m0 := hown0.frozenAt (k * 2)
                  have k0 : (0 : Int) ≤ (k : Int) := by omega
                  have k1 : (k : Int) < (I.length : Int) := by omega
                  clear j0 y0
                  by_cases hop : I[k].op = old
                  · have hs := str_yes hop
                    have hst := (hown0.stored (k * 2) (.string newOp)).1
                    have hfs := flat_set (c := FixItem.cells) (kk := 2) (fun _ => rfl) _ k _ ((renItem old) I[k]) hsk 0 (.string newOp) (by omega) (by unfold renItem ren; rw [if_pos hop]; rfl)
                    rw [Nat.add_zero, ← part_succ (renItem old) I k hlt] at hfs
                    rw [hfs] at hst
                    have HST := Lib.hid hst
                    clear hop hsk hst hfs
                    go_wp2_with fail
                    go_roundw
                    case rel => exact ⟨k + 1, by omega, by go_num, HST.out, hkp.setCell (p := ⟨g, k * 2, none⟩) (fun _ => rfl) _⟩
                    case measure => simp [intOf]; omega
                  · have hs := str_no hop
                    have hps := part_same (renItem old) I k hlt (by unfold renItem ren; rw [if_neg hop])
                    have HPS := Lib.hid hps
                    clear hop hsk hps
                    go_wp2_with fail
                    go_roundw
                    case rel => exact ⟨k + 1, by omega, by go_num, by rw [HPS.out]; exact hown0, hkp⟩
                    case measure => simp [intOf]; omega
                · obtain rfl : k = I.length := by omega
                  rw [part_all (renItem old) I _ (Nat.le_refl _)] at hown0
                  have hk8 : Keeps (fun b => (Value.slice A6 I.length k6).ownBlock = some b) w7 wr := hkp
                  obtain ⟨w8, rfl⟩ : ∃ w8 : World, w8 = wr := ⟨_, rfl⟩
                  have hownT := own_keeps hownT7 hk8 (own_ne_own hownT7 hownI7 (by decide))
                  have hown4 := own_keeps hown47 hk8 (own_ne_own hown47 hownI7 (by decide))
                  have hz8 := hk8.size
                  have hz48 : w4.heap.size ≤ w8.heap.size := by omega
                  have hb8 : Below w.heap.size w w8 := hb7.trans (hk8.below (fun i hi => Nat.le_trans hz5w (hownI7.lt i hi).1) hb7.size)
                  have hslT : Sl w8 (· < w8.heap.size) FixSig.d (T.map (renSig old)) (.slice A5 T.length k5) := Sl.of_own (F := fun _ => False) hownT (by simp) (sigs_rp _ (fun x hx => by
                    obtain ⟨y, hy, rfl⟩ := List.mem_map.1 hx
                    exact ren_sig_ok (hTok y hy))) (fun _ h => h.elim) (fun b h => (hownT.lt b h).2)
                  have hslI : Sl w8 (· < w8.heap.size) FixItem.d (I.map (renItem old)) (.slice A6 I.length k6) := Sl.of_own (F := fun _ => False) hown0 (by simp) (items_rp _ (fun x hx => by
                    obtain ⟨y, hy, rfl⟩ := List.mem_map.1 hx
                    exact ren_item_ok (hIok y hy))) (fun _ h => h.elim) (fun b h => (hown0.lt b h).2)
                  have HB2 := build_any (T.map (renSig old)) (I.map (renItem old)) _ _ (· < w8.heap.size) w8 hslT hslI (fun b h => h)
                  rw [fixBuild_ren Hold.out HTn.out HIn.out, HRX.out] at HB2
                  have HBB2 := Lib.hid HB2
                  clear HB2
                  go_wp2_with fail
                  with_reducible refine HBB2.out.mono ?_
                  rintro e w9 ⟨v9, rfl, hv9, hbb9⟩
                  obtain ⟨A9, k9, rfl, _⟩ := hv9.form
                  rw [List.length_map] at *
                  have hb9 : Below w.heap.size w w9 := hb8.trans (hbb9.mono hb8.size)
                  have hown4w := hown4
                  have hown4' := own_keeps (X := fun _ => False) hown4 (Keeps.of_below hbb9) (fun _ _ h => h)
                  clear hown4
                  have hown4 := hown4'
                  clear hown4'
                  have hrl : r.1.length ≤ 9223372036854775807 := by omega
                  go_wp2_with fail
                  have hlp : r.1.length ≤ 9223372036854775807 := by omega
                  go_loopw [113] (fun i wr => ∃ k : Nat, k ≤ r.1.length ∧ i = .int .i64 k ∧ wr.ownsRow w3.heap.size 53 4 (.slice A4 r.1.length k4) r.1.length ((part (renNode old) r.1 k).flatMap FixNode.cells) ∧ Keeps (fun b => (Value.slice A4 r.1.length k4).ownBlock = some b) w9 wr) (fun i _ => r.1.length - (intOf i).toNat)
                  case atStart => exact ⟨0, Nat.zero_le _, rfl, by rw [part_zero]; exact hown4, Keeps.refl _ _⟩
                  case round =>
                    obtain ⟨k, hk, rfl, hown0, hkp⟩ := hrel
                    by_cases hlt : k < r.1.length
                    · obtain ⟨g, cap, hA, hgb, hgl⟩ := hown0.form (by omega)
                      simp only [Value.slice.injEq, true_and] at hA
                      obtain ⟨rfl, rfl⟩ := hA
                      have hsk := part_get (renNode old) r.1 k k hlt
                      rw [if_neg (by omega)] at hsk
                      have y0 := flat_get (c := FixNode.cells) (kk := 4) (fun _ => rfl) _ k _ hsk 0 (by omega)
                      have j0 := (hown0.cellAt (k * 4) (by omega)).trans y0
                      have j1 : wr.cell? ⟨g, k * 4, none⟩ = some (.string r.1[k].op) := j0
                      have m0 := hown0.frozenAt (k * 4)
                      have k0 : (0 : Int) ≤ (k : Int) := by omega
                      have k1 : (k : Int) < (r.1.length : Int) := by omega
                      clear j0 y0
                      by_cases hop : r.1[k].op = old
                      · have hs := str_yes hop
                        have hst := (hown0.stored (k * 4) (.string newOp)).1
                        have hfs := flat_set (c := FixNode.cells) (kk := 4) (fun _ => rfl) _ k _ ((renNode old) r.1[k]) hsk 0 (.string newOp) (by omega) (by unfold renNode ren; rw [if_pos hop]; rfl)
                        rw [Nat.add_zero, ← part_succ (renNode old) r.1 k hlt] at hfs
                        rw [hfs] at hst
                        have HST := Lib.hid hst
                        clear hop hsk hst hfs
                        go_wp2_with fail
                        go_roundw
                        case rel => exact ⟨k + 1, by omega, by go_num, HST.out, hkp.setCell (p := ⟨g, k * 4, none⟩) (fun _ => rfl) _⟩
                        case measure => simp [intOf]; omega
                      · have hs := str_no hop
                        have hps := part_same (renNode old) r.1 k hlt (by unfold renNode ren; rw [if_neg hop])
                        have HPS := Lib.hid hps
                        clear hop hsk hps
                        go_wp2_with fail
                        go_roundw
                        case rel => exact ⟨k + 1, by omega, by go_num, by rw [HPS.out]; exact hown0, hkp⟩
                        case measure => simp [intOf]; omega
                    · obtain rfl : k = r.1.length := by omega
                      rw [part_all (renNode old) r.1 _ (Nat.le_refl _)] at hown0
                      have hb10 : Below w.heap.size w wr := hb9.trans (hkp.below (fun i hi => Nat.le_trans hb3z (hown4.lt i hi).1) hb9.size)
                      have hs10 : Sl wr (fun _ => True) FixNode.d (r.1.map (renNode old)) (.slice A4 r.1.length k4) := Sl.of_own (F := fun _ => False) hown0 (by simp) (hnrp (r.1.map (renNode old)) (fun x hx => by
                          obtain ⟨y, hy, rfl⟩ := List.mem_map.1 hx
                          exact ren_node_ok (hnok y hy)) wr) (fun _ h => h.elim) (fun _ _ => trivial)
                      have hs10u := hv9.keeps hkp (fun b hb hb2 => by
                        have hq1 := (hown4.lt b hb2).2
                        have hq2 : w4.heap.size ≤ w8.heap.size := hz48
                        have hq3 : w8.heap.size ≤ b := hb
                        have hq4 : b < w8.heap.size := (hown4w.lt b hb2).2
                        exact absurd hq3 (Nat.not_le.2 hq4))
                      have HE := nodeEqual (r.1.map (renNode old)) (r.1.map (renNode old)) _ _ _ _ wr hs10 hs10u
                      rw [eqBy_refl FixNode.eqB (fun x => by simp [FixNode.eqB])] at HE
                      have HEE := Lib.hid HE
                      clear HE
                      go_wp2_with fail
                      with_reducible refine HEE.out.mono ?_
                      rintro e w11 ⟨rfl, hb11⟩
                      go_wp2
                      go_ret
                      exact ⟨rfl, hb10.trans (hb11.mono hb10.size)⟩
        · rw [ht2] at HC2
          have HCC2 := Lib.hid HC2
          clear HC2 ht2 eg2
          go_wp2_with fail
          refine HCC2.out.mono ?_
          rintro e w3 ⟨rfl, hb3'⟩
          go_wp2
          go_ret
          exact ⟨rfl, hbw2.trans (hb3'.mono hbw2.size)⟩
      · rw [ht1] at HC1
        have HCC1 := Lib.hid HC1
        clear HC1 ht1 eg1
        go_wp2_with fail
        refine HCC1.out.mono ?_
        rintro e w2 ⟨rfl, hb2⟩
        go_wp2
        go_ret
        exact ⟨rfl, hbw1.trans (hb2.mono hbw1.size)⟩

theorem laid : laidOutB Try.prog = true := by kernel_rfl

set_option maxRecDepth 100000 in
theorem lifted (os : Os) (started : os.Started) (H : Type) (enc : TypeId × Value → H) :
    ReturnsInHanded {} Try.checked os 9 .any (Rows.fixityRenamedSpec.pre6 enc Try.prog Try.f9 Rows.fixityRenamedRow.domain false) (Rows.fixityRenamedSpec.post enc Try.prog Try.f9 false true false false) := by
  refine returnsInHanded_of_change_sized (C := Try.checked) own started (by kernel_rfl) Try.func9
    (ChangeSpec.witness6 (enc := enc) (C := Try.checked) false ⟨#[], #[.slice none 0 0, .slice none 0 0, .int .i64 0], []⟩ 8 (by kernel_rfl) (by kernel_rfl) (by kernel_rfl) (by kernel_rfl)) ?_
  intro W base args ds gs before hval0 hW hcnd hsz0 _
  have hval : ∀ (j : Nat) t v, Try.f9.params[j]? = some t → args[j]? = some v → Value.okWide Try.prog W .any base t v := hval0
  have hW' := hW
  obtain ⟨p, q, hA0, hV, hbef, hfz, hnd⟩ := hW
  have hA : DataW.TrodAll enc Try.prog W 0 (fun _ => true) true Try.f9.params.toList args.toList ds p := hA0
  have hsz : (DataW.weightsEach Try.prog (Try.f9.params.toList ++ Rows.fixityRenamedSpec.plain.varTypes Try.prog) (ds ++ gs)).all (· ≤ reachBytes) = true := hsz0
  rw [Try.params9] at hA hval hsz
  obtain ⟨v0, vs0, d0, ds0, p0, q0, hargs, hds, rfl, h0, r0⟩ := trodAll_cons hA
  obtain ⟨v1, vs1, d1, ds1, p1, q1, rfl, rfl, rfl, h1, r1⟩ := trodAll_cons r0
  obtain ⟨v2, vs2, d2, ds2, p2, q2, rfl, rfl, rfl, h2, r2⟩ := trodAll_cons r1
  obtain ⟨rfl, rfl, rfl⟩ := trodAll_nil r2
  obtain rfl : args = #[v0, v1, v2] := by cases args; simp_all
  obtain ⟨rfl, _⟩ := trodVars_none hV
  subst hds
  obtain ⟨a0, s0, b0⟩ := sl_of_arg_sized (f := FixSig.d) (k := 3) Try.underlying44 (by kernel_rfl) (by decide) (fun _ _ _ h => FixSig.of_trod h) (hval 0 44 v0 rfl rfl) h0 (weight_at hsz (j := 0) rfl rfl)
  rw [show Try.prog.bytesOf 47 = 32 from by kernel_rfl] at b0
  obtain ⟨a1, s1, b1⟩ := sl_of_arg_sized (f := FixItem.d) (k := 2) Try.underlying45 (by kernel_rfl) (by decide) (fun _ _ _ h => FixItem.of_trod h) (hval 1 45 v1 rfl rfl) h1 (weight_at hsz (j := 1) rfl rfl)
  rw [show Try.prog.bytesOf 57 = 24 from by kernel_rfl] at b1
  obtain ⟨a2, rfl, rfl, rfl, s2⟩ := open_int Try.underlying3 (hval 2 3 v2 rfl rfl) h2
  refine (walk a0 a1 a2 v0 v1 W s0 s1 b0 b1).mono fun e W' ⟨he, hb⟩ => ?_
  subst he
  exact ⟨_, rfl, law_post laid (by kernel_rfl) rfl Try.underlying4 rfl rfl rfl rfl hW' hb⟩

theorem over : Rows.fixityRenamedRow.holds Try.pinned (OpenSpec.ofChange Rows.fixityRenamedSpec) :=
  OpenClaim.holds_of_wide 9 Try.f9 rfl rfl rfl rfl rfl rfl rfl ⟨rfl, rfl, rfl, rfl, rfl⟩ rfl rfl rfl rfl rfl (by kernel_rfl) Try.func9 (by kernel_rfl)
    (of_decide_eq_true (by kernel_rfl)) (by unfold Func.isWrapper; first | (rw [if_pos (by decide +kernel)]; kernel_rfl) | (rw [if_neg (by decide +kernel)]; exact ⟨rfl, rfl⟩))
    (fun os started H enc _ => lifted os started H enc)

theorem proved : Rows.FixityRenamedSaid :=
  over
#print axioms proved
end Go.Proofs.Ytpeabfbljiaedaa.fixityRenamed
