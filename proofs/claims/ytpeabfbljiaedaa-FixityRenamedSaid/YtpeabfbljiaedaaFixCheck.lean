/- fixity.Check: the code for a table of fixities. No conditions. -/
import Derived.Test.YtpeabfbljiaedaaFixIdx
namespace Go.Proofs.Ytpeabfbljiaedaa
open Go.RowKit Go.Shelf

def sameOp (op : ByteArray) (y : FixSig) : Bool := y.op.toList == op.toList

set_option maxHeartbeats 400000 in
theorem check1_any (op : ByteArray) (g : Nat) (y : FixSig) (w : World) (hg : g < w.heap.size) (hx : w.cell? ⟨g, 0, none⟩ = some (.string op)) :
    Calls Try.prog 59 #[.agg #[.string y.op, .int .i64 y.side, .int .i64 y.level], .pointer (some ⟨g, 0, none⟩)] w fun e w' => e = .returned (.bool (sameOp op y)) ∧ Below w.heap.size w w' := by
  go_enter Try.func59, Try.ntmps59
  go_wp2
  go_ret
  exact ⟨rfl, (Below.refl _ _).alloc (Nat.le_refl _) _⟩

def fixBad (x : FixSig) : Bool := decide (x.side < 0) || (decide (2 < x.side) || (decide (x.level < 0) || decide (9 < x.level)))
def fixCheckFrom : List FixSig → List FixSig → Int
  | _, [] => 0
  | pre, x :: r => if x.op.toList = [] then 3 else if fixBad x = true then 4 else if pre.any (sameOp x.op) = true then 7 else fixCheckFrom (pre ++ [x]) r
def fixCheck (l : List FixSig) : Int := if 4096 < l.length then 2 else fixCheckFrom [] l

theorem fixCheck_step (l : List FixSig) (k : Nat) (hk : k < l.length) : fixCheckFrom (l.take k) (l.drop k) =
    if l[k].op.toList = [] then 3 else if fixBad l[k] = true then 4 else if (l.take k).any (sameOp l[k].op) = true then 7 else fixCheckFrom (l.take (k + 1)) (l.drop (k + 1)) := by
  rw [List.drop_eq_getElem_cons hk, fixCheckFrom, List.take_succ_eq_append_getElem hk]
theorem fixCheck_end (l : List FixSig) (k : Nat) (hk : l.length ≤ k) : fixCheckFrom (l.take k) (l.drop k) = 0 := by
  rw [List.drop_eq_nil_of_le hk]; rfl

theorem fixBad_cases (x : FixSig) (h : fixBad x = true) : x.side < 0 ∨ (0 ≤ x.side ∧ (2 < x.side ∨ (x.side ≤ 2 ∧ (x.level < 0 ∨ (0 ≤ x.level ∧ 9 < x.level))))) := by
  simp [fixBad] at h; omega
theorem fixBad_not (x : FixSig) (h : ¬ fixBad x = true) : 0 ≤ x.side ∧ x.side ≤ 2 ∧ 0 ≤ x.level ∧ x.level ≤ 9 := by
  simp [fixBad] at h; omega

set_option maxHeartbeats 400000 in
theorem fixCheck_any (l : List FixSig) (v : Value) (F : Nat → Prop) (w : World) (hv : Sl w F FixSig.d l v) :
    Calls Try.prog 46 #[v] w fun e w' => e = .returned (.int .i64 (fixCheck l)) ∧ Below w.heap.size w w' := by
  obtain ⟨A, c, rfl, hlc, hcm, _⟩ := hv.form
  have hl : l.length ≤ 9223372036854775807 := by unfold maxLen at hcm; omega
  have eg : Enters Try.prog 59 := enters_of Try.func59 (by kernel_rfl) rfl
  by_cases hbig : 4096 < l.length
  · have HE := Lib.hid (show fixCheck l = 2 from by unfold fixCheck; rw [if_pos hbig])
    go_enter Try.func46, Try.ntmps46
    go_wp2
    go_ret
    exact ⟨ret_int HE.out.symm, Below.refl _ _⟩
  · have HE := Lib.hid (show fixCheck l = fixCheckFrom (l.take 0) (l.drop 0) from by unfold fixCheck; rw [if_neg hbig]; simp)
    go_enter Try.func46, Try.ntmps46
    go_wp2
    go_loopw [10] (fun i wr => ∃ k : Nat, k ≤ l.length ∧ i = .int .i64 k ∧ Below w.heap.size w wr ∧ Hid (fixCheck l = fixCheckFrom (l.take k) (l.drop k))) (fun i _ => l.length - (intOf i).toNat)
    case atStart => exact ⟨0, Nat.zero_le _, rfl, Below.refl _ _, HE.out⟩
    case round =>
      obtain ⟨k, hk, rfl, hb, hno⟩ := hrel
      by_cases hlt : k < l.length
      · have hv' := hv.later hb
        obtain ⟨g, off, rfl, hF, c0, c1, c2, s0, s1, s2⟩ := FixSig.get hv' hlt
        have hst := hno.out.trans (fixCheck_step l k hlt)
        by_cases hop : l[k].op.toList = []
        · rw [if_pos hop] at hst
          have HS := Lib.hid hst
          clear hst
          have ho : l[k].op.toList.isEmpty = true := by rw [hop]; rfl
          clear hop
          go_wp2_with fail
          go_ret
          exact ⟨ret_int HS.out.symm, hb.alloc (by have := hb.size; omega) _⟩
        · rw [if_neg hop] at hst
          have ho : l[k].op.toList.isEmpty = false := by cases h : l[k].op.toList with
            | nil => exact absurd h hop
            | cons _ _ => rfl
          clear hop
          by_cases hbad : fixBad l[k] = true
          · rw [if_pos hbad] at hst
            have HS := Lib.hid hst
            clear hst
            have hcase := fixBad_cases l[k] hbad
            clear hbad
            rcases hcase with h1 | ⟨h1, h2 | ⟨h2, h3 | ⟨h3, h4⟩⟩⟩
            all_goals
              go_wp2_with fail
              go_ret
              exact ⟨ret_int HS.out.symm, hb.alloc (by have := hb.size; omega) _⟩
          · rw [if_neg hbad] at hst
            obtain ⟨h1, h2, h3, h4⟩ := fixBad_not l[k] hbad
            clear hbad
            have hz := hb.size
            have hsub := Sl.take hv hk
            have HC := fun (W : World) (hW : Below w.heap.size w W) (hg : W.cell? ⟨wr.heap.size, 0, none⟩ = some (.string l[k].op)) =>
              sigContainsFunc (l.take k) _ F W (hsub.later hW) 59 #[.pointer (some ⟨wr.heap.size, 0, none⟩)] (sameOp l[k].op) eg (by
                intro i hi cs w1 hb1 hrp
                rw [FixSig.rp] at hrp
                obtain ⟨rfl, _⟩ := hrp
                exact check1_any _ _ _ _ (Nat.lt_of_lt_of_le (block_lt_of_cell hg) hb1.size) ((hb1.cell (block_lt_of_cell hg)).trans hg))
            have hgo : Below w.heap.size w (wr.alloc (Obj.cells #[Value.string l[k].op, Value.int IntKind.i64 l[k].side, Value.int IntKind.i64 l[k].level] 47)) := hb.alloc (by omega) _
            have HH := Lib.hid (HC _ hgo ((Blk.new wr _ [_, _, _]).cell (i := 0) rfl))
            clear HC
            cases hany : (l.take k).any (sameOp l[k].op)
            · rw [hany] at hst HH
              have HS := Lib.hid hst
              clear hst hany
              go_wp2_with fail
              refine HH.out.mono ?_
              rintro e w1 ⟨rfl, hb1⟩
              go_wp2
              go_roundw
              case rel => exact ⟨k + 1, by omega, by go_num, hgo.trans (hb1.mono hgo.size), HS.out⟩
              case measure => simp [intOf]; omega
            · rw [hany] at hst HH
              have HS := Lib.hid hst
              clear hst hany
              go_wp2_with fail
              refine HH.out.mono ?_
              rintro e w1 ⟨rfl, hb1⟩
              go_wp2
              go_ret
              exact ⟨ret_int HS.out.symm, hgo.trans (hb1.mono hgo.size)⟩
      · have HS := Lib.hid (hno.out.trans (fixCheck_end l k (by omega)))
        go_wp2
        go_ret
        exact ⟨ret_int HS.out.symm, hb⟩
end Go.Proofs.Ytpeabfbljiaedaa
