/- The evaluator builds structs, arrays and slices as the model does. No conditions. -/
import Derived.Test.YtdoddlkppkegnaaGreatDoorEvX
import Derived.Laws.Tables
namespace Go.Proofs.YtdoddlkppkegnaaGreatDoor.Ev
open Go Go.RowKit
set_option linter.unusedSimpArgs false
set_option linter.unusedVariables false
section
variable {sy : Nat → Value} {N0 : Par} {W0 : World} {P : Program} {G : Nat} {e : Env} {m : M} {nx : Nat} {W : World}
/-- Cells laid over others. -/
def putV : List Value → Nat → Array Value → Array Value
  | [], _, cs => cs
  | v :: vs, o, cs => putV vs (o + 1) (cs.setIfInBounds o v)
theorem size_putV : ∀ (vs : List Value) (o : Nat) (cs : Array Value), (putV vs o cs).size = cs.size
  | [], _, _ => rfl
  | v :: vs, o, cs => by rw [putV, size_putV vs]; simp
theorem fold_putV (off : Nat) : ∀ (vs : List Value) (k : Nat) (cs : Array Value), (vs.zipIdx k).foldl (fun cs (x : Value × Nat) => cs.setIfInBounds (off + x.2) x.1) cs = putV vs (off + k) cs
  | [], _, _ => rfl
  | v :: vs, k, cs => by
    rw [List.zipIdx_cons, List.foldl_cons, fold_putV off vs (k + 1)]
    rfl
theorem fill_cons (place : Nat → Option (Nat × Nat)) (cells : Array Value) (i o s : Nat) (v : Value) (rest : List (Nat × Value)) (hp : place i = some (o, s)) (hs : v.cells.size = s) (hle : o + s ≤ cells.size) :
    Instr.fill place cells ((i, v) :: rest) = Instr.fill place (putV v.cells.toList o cells) rest := by
  have hc : ¬ (v.cells.size ≠ s || decide (o + v.cells.size > cells.size)) = true := by simp [hs]; omega
  rw [Instr.fill, hp]
  simp only
  rw [if_neg (by simpa using hc)]
  congr 1
  have h0 := fold_putV o v.cells.toList 0 cells
  rw [Nat.add_zero] at h0
  rw [← h0, ← Array.foldl_toList]
  simp
theorem setA_ok {x : AV} {v : Value} (hx : RV sy e x v) : ∀ (i : Nat) (l : AV) (vs : List Value) {K : AV → Bool}, RL sy e l vs → setA i x l K = true → ∃ l', K l' = true ∧ RL sy e l' (vs.set i v)
  | 0, l, vs, K, hl, h => by
    obtain ⟨y, l', rfl, h1⟩ := asCons_yes (K := fun _ l => K (.cons x l)) h
    cases hl with | cons hy hl => exact ⟨_, h1, .cons hx hl⟩
  | i + 1, l, vs, K, hl, h => by
    obtain ⟨y, l', rfl, h1⟩ := asCons_yes (K := fun y l => setA i x l fun l => K (.cons y l)) h
    cases hl with
    | cons hy hl =>
      obtain ⟨l'', h2, h3⟩ := setA_ok hx i l' _ hl h1
      exact ⟨_, h2, .cons hy h3⟩
theorem pourA_ok : ∀ (ws : List Value) (w : AV) (o : Nat) (l : AV) (cs : Array Value) {K : AV → Bool}, RL sy e w ws → RL sy e l cs.toList → pourA w o l K = true → ∃ l', K l' = true ∧ RL sy e l' (putV ws o cs).toList
  | [], w, o, l, cs, K, hw, hl, h => by
    cases hw
    exact ⟨l, h, hl⟩
  | u :: ws, w, o, l, cs, K, hw, hl, h => by
    cases hw with
    | cons hu hw =>
      rename_i x w
      have h' : setA o x l (fun l => frcN (Nat.succ o) fun o => pourA w o l K) = true := h
      obtain ⟨l', h1, h2⟩ := setA_ok hu o l _ hl h'
      rw [frcN_eq] at h1
      exact pourA_ok ws w (o + 1) l' (cs.setIfInBounds o u) hw (by simpa using h2) h1
/-- The parts of a struct or an array. -/
theorem cBuild_ok {place : Nat → Option (Nat × Nat)} {ty : Nat → Option TypeId} {n : Nat} {a : T AV} {act : Act} (hG : ∀ g, g < G → ∃ sz, e g = some (g, 0, sz)) {ops : Array Operand} (ho : Ops sy e a act ops) :
    ∀ (parts : List (Nat × Operand)) (l : AV) (cs : Array Value) {K : AV → Bool}, (∀ x ∈ parts, x.2 ∈ ops) → RL sy e l cs.toList → cs.size = n → (cBuild P G place ty n parts).f a l K = true →
      ∃ l' cs', K l' = true ∧ RL sy e l' cs'.toList ∧ Instr.fill place cs (parts.map fun x => (x.1, act.eval x.2)) = some cs'
  | [], l, cs, K, _, hl, _, h => ⟨l, cs, h, hl, rfl⟩
  | (i, x) :: r, l, cs, K, hmem, hl, hn, h => by
    cases hp : place i with
    | none => simp only [cBuild, hp, BL.f, undF_eq, infoF_eq, funF_eq] at h; cases h
    | some os =>
      obtain ⟨o, s⟩ := os
      cases ht : ty i with
      | none => simp only [cBuild, hp, ht, BL.f, undF_eq, infoF_eq, funF_eq] at h; cases h
      | some t =>
        cases hs : sizeAt P t with
        | none => simp only [cBuild, hp, ht, hs, BL.f, undF_eq, infoF_eq, funF_eq] at h; cases h
        | some s' =>
          cases hb : (Nat.beq s' s && Nat.ble (Nat.add o s) n) with
          | false => simp only [cBuild, hp, ht, hs, hb, BL.f, undF_eq, infoF_eq, funF_eq] at h; cases h
          | true =>
            simp only [cBuild, hp, ht, hs, hb, BL.f, undF_eq, infoF_eq, funF_eq] at h
            simp only [Bool.and_eq_true] at hb
            obtain rfl := beq_iff.1 hb.1
            have hle : o + s' ≤ n := ble_iff.1 hb.2
            obtain ⟨v, h1, h2⟩ := cOpd_ok hG ho (hmem (i, x) List.mem_cons_self) h
            obtain ⟨w, h3, h4, q, h5, h6⟩ := cCells_ok h1 h2
            rw [hs] at h5
            cases h5
            obtain ⟨l', h7, h8⟩ := pourA_ok _ w o l cs h4 hl h3
            obtain ⟨l'', cs', h9, h10, h11⟩ := cBuild_ok hG ho r l' (putV (act.eval x).cells.toList o cs) (fun y hy => hmem y (List.mem_cons_of_mem _ hy)) h8 (by rw [size_putV]; exact hn) h7
            refine ⟨l'', cs', h9, h10, ?_⟩
            rw [List.map_cons, fill_cons place cs i o s' _ _ hp h6 (by omega)]
            exact h11
theorem op_build (t : TypeId) (parts : Array (Nat × Operand)) : OpOk P sy N0 W0 G (cOp P G (.build t parts)) (.build t parts) := by
  have hmem : ∀ x ∈ parts.toList, x.2 ∈ (Op.build t parts).operands := by
    intro x hx
    simp only [Op.operands, List.mem_toArray, List.mem_map]
    exact ⟨x, hx, rfl⟩
  cases hu : P.underlying t with
  | none => simp only [cOp, hu, BX.f, undF_eq, infoF_eq, funF_eq]; exact xNo_ok
  | some d =>
    cases hz : zeroA P t with
    | none =>
      have e1 : cOp P G (.build t parts) = xNo := by
        simp only [cOp, hu, hz, BX.f, undF_eq, infoF_eq, funF_eq]
        try (cases d <;> rfl)
      rw [e1]; exact xNo_ok
    | some zv =>
      by_cases hd : (∃ fs, d = .struct fs) ∨ ∃ n el, d = .array n el
      · cases zv with
        | agg z =>
          obtain ⟨it, hit, hiz⟩ : ∃ it, P.info? t = some it ∧ ∃ v, it.zero = some v ∧ ∀ e : Env, RV sy e (.agg z) v := by
            unfold zeroA at hz
            try simp only [undF_eq, infoF_eq, funF_eq] at hz
            cases hi : P.info? t with
            | none => rw [hi] at hz; cases hz
            | some it =>
              rw [hi] at hz
              cases hv : it.zero with
              | none => simp only [hv] at hz; cases hz
              | some v => simp only [hv] at hz; exact ⟨it, rfl, v, hv, fun e => absF_ok 8 v _ hz⟩
          obtain ⟨zv, hzv, hzr⟩ := hiz
          rcases hd with ⟨fs, rfl⟩ | ⟨n, el, rfl⟩
          · cases hp : placesOf P fs.toList with
            | none => simp only [cOp, hu, hz, hp, BX.f, undF_eq, infoF_eq, funF_eq]; exact xNo_ok
            | some pl =>
              simp only [cOp, hu, hz, hp, BX.f, undF_eq, infoF_eq, funF_eq]
              refine xP_ok ?_
              intro a K h e act hG hops
              have hzr' := hzr e
              cases hzr' with
              | agg hl =>
                rename_i zs
                obtain ⟨l', cs', h1, h2, h3⟩ := cBuild_ok hG hops parts.toList z zs.toArray hmem (by simpa using hl) (by rw [hl.cntA]; simp) h
                refine ⟨_, .agg cs', h1, by simpa using RV.agg h2, fun o W ho => ?_⟩
                have hrun := run_build (P := P) W t (parts.map fun x => (x.1, act.eval x.2)) cs' (by
                  unfold Program.built
                  unfold placesOf at hp
                  try simp only [undF_eq, infoF_eq, funF_eq] at hp
                  simp only [hit, hu, hzv, hp]
                  simpa [Value.cells] using h3)
                simp only [execOp, ho, Sem.run_bind]
                rw [hrun]; simp
          · cases hs : sizeAt P el with
            | none => simp only [cOp, hu, hz, hs, BX.f, undF_eq, infoF_eq, funF_eq]; exact xNo_ok
            | some s =>
              simp only [cOp, hu, hz, hs, BX.f, undF_eq, infoF_eq, funF_eq]
              refine xP_ok ?_
              intro a K h e act hG hops
              have hzr' := hzr e
              cases hzr' with
              | agg hl =>
                rename_i zs
                obtain ⟨l', cs', h1, h2, h3⟩ := cBuild_ok hG hops parts.toList z zs.toArray hmem (by simpa using hl) (by rw [hl.cntA]; simp) h
                refine ⟨_, .agg cs', h1, by simpa using RV.agg h2, fun o W ho => ?_⟩
                have hie : ∃ ie, P.info? el = some ie ∧ ie.size = s := by
                  unfold sizeAt at hs
                  try simp only [undF_eq, infoF_eq, funF_eq] at hs
                  cases hq : P.info? el with
                  | none => rw [hq] at hs; cases hs
                  | some ie => rw [hq] at hs; cases hs; exact ⟨ie, rfl, rfl⟩
                obtain ⟨ie, hie1, rfl⟩ := hie
                have hrun := run_build (P := P) W t (parts.map fun x => (x.1, act.eval x.2)) cs' (by
                  unfold Program.built
                  simp only [hit, hu, hzv, hie1]
                  simpa [Value.cells] using h3)
                simp only [execOp, ho, Sem.run_bind]
                rw [hrun]; simp
        | _ =>
          have e1 : cOp P G (.build t parts) = xNo := by
            rcases hd with ⟨fs, rfl⟩ | ⟨n, el, rfl⟩ <;> simp only [cOp, hu, hz, BX.f, undF_eq, infoF_eq, funF_eq]
          rw [e1]; exact xNo_ok
      · have e1 : cOp P G (.build t parts) = xNo := by
          simp only [cOp, hu, hz, BX.f, undF_eq, infoF_eq, funF_eq]
          cases d <;> first | rfl | exact absurd (.inl ⟨_, rfl⟩) hd | exact absurd (.inr ⟨_, _, rfl⟩) hd
        rw [e1]; exact xNo_ok
end
end Go.Proofs.YtdoddlkppkegnaaGreatDoor.Ev
