/- What the evaluator's memory holds, read as two diagnoses of a text. No conditions. -/
import Derived.Test.YtnkbpjmijeeddaaGreatDoorEvG4
namespace Go.Proofs.YtnkbpjmijeeddaaGreatDoor.Ev
open Go Go.RowKit
set_option linter.unusedSimpArgs false
set_option linter.unusedVariables false
/-- Errors of code c at lines a and b, and no others. -/
noncomputable def badsAt (c a b : Int) : AV → M → Nat → Bool
  | .tup l, m, _ => match nthA l 1 with
    | .slc p o es n _ => match m.at p with
      | none => false
      | some B => match B.cell (o + 1) with
        | .int k x => match B.cell (o + 5) with
          | .int k' y => match nthA l 2 with
            | .int k2 z => Nat.beq (lenA l) 3 && sameK k .i64 && sameK k' .i64 && sameK k2 .i64 && Nat.beq n 2 && Nat.ble (o + 6) B.n && decide (x = a) && decide (y = b) && decide (z = c)
            | _ => false
          | _ => false
        | _ => false
    | _ => false
  | _, _, _ => false
/-- Three results: errors at two lines. -/
def BadsAt (c a b : Int) (e : Ending) (W' : World) : Prop :=
  ∃ t r base cap, e = .returned (.tuple #[t, .slice (some ⟨r, base, none⟩) 2 cap, .int .i64 c]) ∧ W'.cell? ⟨r, base + 1, none⟩ = some (.int .i64 a) ∧ W'.cell? ⟨r, base + 5, none⟩ = some (.int .i64 b)
/-- A function that the evaluator finds to answer so: it does so in the model. -/
theorem bads_ok {P : Program} {sy : Nat → Value} {G : Nat} {pr : Prims} (hp : PrimOk P sy G pr) {L n nx k : Nat} {f : FuncId} {l : AV} {c a b : Int} (hk : k < G) (hG : G ≤ nx) (hn : nx ≤ top) (h : evC P pr G L n f l (mem0 k) nx (badsAt c a b) (fun _ _ _ => false) = true)
    {args : List Value} {W : World} (hW : G ≤ W.heap.size) (hone : (sy 0).oneCell' = true) (h0 : W.cell? ⟨k, 0, none⟩ = some (sy 0)) (hl : RL sy (envG G) l args) (henter : (callFunc f args.toArray).run P W = .ok (.enter f args.toArray) W) :
    Calls P f args.toArray W fun en W' => BadsAt c a b en W' ∧ Below W.heap.size W W' := by
  have h1 := run_ok hp L n ⟨W.heap.size, fun _ => none⟩ W f l (mem0 k) nx _ _ h (envG G) args W (envG_ok (Nat.le_trans hG hn)) (St.start W hk hG hn hW hone h0) hl (fun v W' => BadsAt c a b (.returned v) W' ∧ Below W.heap.size W W') (fun _ _ => False)
    (fun e' v v' m nx' W' he hst hv hK => by
      refine ⟨?_, hst.be⟩
      cases hv with
      | tup hl' =>
        rename_i l' vs
        unfold badsAt at hK
        dsimp only at hK
        split at hK
        · rename_i p o es n cc h1
          split at hK
          · cases hK
          · rename_i B hB
            split at hK
            · rename_i k x hx
              split at hK
              · rename_i k' y hy
                split at hK
                · rename_i k2 z hz
                  simp only [Bool.and_eq_true, Nat.beq_eq, Nat.ble_eq, decide_eq_true_eq] at hK
                  obtain ⟨⟨⟨⟨⟨⟨⟨⟨q1, q2⟩, q3⟩, q4⟩, q5⟩, q6⟩, q7⟩, q8⟩, q9⟩ := hK
                  obtain rfl := sameK_yes q2
                  obtain rfl := sameK_yes q3
                  obtain rfl := sameK_yes q4
                  subst q5 q7 q8 q9
                  rw [hl'.len] at q1
                  obtain ⟨t, u, w, rfl⟩ : ∃ t u w, vs = [t, u, w] := by
                    match vs, q1 with
                    | [t, u, w], _ => exact ⟨t, u, w, rfl⟩
                  have g1 := hl'.nth 1 (by simp)
                  have g2 := hl'.nth 2 (by simp)
                  rw [h1] at g1
                  rw [hz] at g2
                  simp only [List.getElem_cons_succ, List.getElem_cons_zero] at g1 g2
                  cases g2
                  cases g1 with
                  | slc hq hn2 hs2 hcp =>
                    rename_i r base sz cap
                    have hH := hst.rm.blk p B r base sz hB hq
                    obtain ⟨v1, u1, u2, _⟩ := hH.cells (o + 1) (by omega)
                    obtain ⟨v2, u3, u4, _⟩ := hH.cells (o + 5) (by omega)
                    have u2 : RV sy e' (B.cell (o + 1)) v1 := u2
                    have u4 : RV sy e' (B.cell (o + 5)) v2 := u4
                    rw [hx] at u2
                    rw [hy] at u4
                    cases u2
                    cases u4
                    exact ⟨t, r, base + o, cap, rfl, u1, u3⟩
                · cases hK
              · cases hK
            · cases hK
        · cases hK
      | int _ _ => cases hK
      | bool _ => cases hK
      | str _ => cases hK
      | ref _ => cases hK
      | slc _ _ _ _ => cases hK
      | nilp => cases hK
      | nils => cases hK
      | nilf => cases hK
      | nili => cases hK
      | fn _ _ => cases hK
      | ifc _ => cases hK
      | agg _ => cases hK
      | sym _ _ _ => cases hK
      | symc _ _ _ => cases hK
      | junk _ => cases hK)
    (fun e' c cs m nx' W' he hst hc hK => by cases hK)
  rw [henter] at h1
  refine Calls.mono h1 fun en W' hh => ?_
  cases en with
  | returned v => exact hh
  | panicked c => obtain ⟨_, _, h2⟩ := hh; exact h2.elim
  | outgrown => exact hh.elim
end Go.Proofs.YtnkbpjmijeeddaaGreatDoor.Ev
