/- The evaluator's start: no block is known but where the package variables stand. No conditions. -/
import Derived.Test.YtdoddlkppkegnaaGreatDoorEvRun
namespace Go.Proofs.YtdoddlkppkegnaaGreatDoor.Ev
open Go Go.RowKit
set_option linter.unusedSimpArgs false
set_option linter.unusedVariables false
section
variable {sy : Nat → Value} {P : Program} {G : Nat}
/-- Where the package variables stand. -/
noncomputable def envG (G : Nat) : Env := fun p => if p < G then some (p, 0, 1) else none
theorem envG_ok (hG : G ≤ top) : GlobOk G (envG G) := by
  intro g hg
  exact ⟨1, if_pos hg⟩
theorem envG_some {p : Nat} {x : Nat × Nat × Nat} (h : envG G p = some x) : x.1 < G ∧ p = x.1 := by
  unfold envG at h
  split at h
  · rename_i h1
    cases h
    exact ⟨h1, rfl⟩
  · cases h
/-- The memory at the start: package variable k holds symbol 0. -/
noncomputable def mem0 (k : Nat) : M := T.setP none (some ⟨T.setP und (.sym 0) 0 .leaf fun c => c, 1, 1, true⟩) k .leaf fun m => m
theorem St.start (W : World) {nx k : Nat} (hk : k < G) (hG : G ≤ nx) (hn : nx ≤ top) (hW : G ≤ W.heap.size) (hone : (sy 0).oneCell' = true) (h0 : W.cell? ⟨k, 0, none⟩ = some (sy 0)) : St sy ⟨W.heap.size, fun _ => none⟩ W (envG G) (mem0 k) nx W := by
  have hat : ∀ p, p ≠ k → M.at (mem0 k) p = none := fun p hp => by
    unfold mem0
    rw [T.setP_eq, M.at_set (Ne.symm hp)]; rfl
  have hat0 : M.at (mem0 k) k = some ⟨T.set und (.sym 0) 0 .leaf, 1, 1, true⟩ := by
    unfold mem0
    rw [T.setP_eq, T.setP_eq, M.at_same]
  have hsz : ∀ p x, envG G p = some x → x = (x.1, 0, 1) := fun p x h => by
    unfold envG at h
    split at h
    · cases h; rfl
    · cases h
  refine ⟨⟨fun p B r base sz h1 h2 => ?_, fun p p' B B' x x' h1 h2 _ _ _ => ?_, fun p x h => ?_, fun p x h => ?_, by omega, fun p B h => (by cases h)⟩, Below.refl _ _, Nat.le_refl _⟩
  · by_cases hp : p = k
    · subst hp
      rw [hat0] at h1
      cases h1
      obtain ⟨g1, g2⟩ := envG_some h2
      have g3 := hsz _ _ h2
      simp only at g1 g2 g3
      have hrk : p = r := g2
      subst hrk
      simp only [Prod.mk.injEq, true_and] at g3
      obtain ⟨rfl, rfl⟩ := g3
      refine ⟨Nat.le_refl 1, by decide, fun i hi => ?_, fun i hi => ?_, fun h => (by cases h), fun h => (by cases h)⟩
      · have : i = 0 := by omega
        subst this
        exact ⟨_, h0⟩
      · have : i = 0 := by simp only at hi; omega
        subst this
        refine ⟨sy 0, h0, ?_, ?_⟩
        · show RV sy (envG G) (T.get und (T.set und (.sym 0) 0 .leaf) 0) (sy 0)
          rw [T.get_set]; exact RV.sym 0 (by omega) hone
        · show (T.get und (T.set und (.sym 0) 0 .leaf) 0).cell = true
          rw [T.get_set]; rfl
    · rw [hat p hp] at h1; cases h1
  · have f : ∀ q C, M.at (mem0 k) q = some C → q = k := fun q C hq => by
      by_cases hqk : q = k
      · exact hqk
      · rw [hat q hqk] at hq; cases hq
    rw [f p B h1, f p' B' h2]
  · obtain ⟨h1, h2⟩ := envG_some h
    exact ⟨_, by omega, h2⟩
  · have := (envG_some h).1
    omega
/-- Where the kernel finds that a law answers true, it does so in the model. -/
theorem says_true {pr : Prims} (hp : PrimOk P sy G pr) {L n nx k : Nat} {f : FuncId} {l : AV} (hk : k < G) (hG : G ≤ nx) (hn : nx ≤ top) (h : evC P pr G L n f l (mem0 k) nx (fun v _ _ => asBool v fun b => b) (fun _ _ _ => false) = true)
    {args : List Value} {W : World} (hW : G ≤ W.heap.size) (hone : (sy 0).oneCell' = true) (h0 : W.cell? ⟨k, 0, none⟩ = some (sy 0)) (hl : RL sy (envG G) l args) (henter : (callFunc f args.toArray).run P W = .ok (.enter f args.toArray) W) :
    Calls P f args.toArray W fun en W' => en = .returned (.bool true) ∧ Below W.heap.size W W' := by
  have h1 := run_ok hp L n ⟨W.heap.size, fun _ => none⟩ W f l (mem0 k) nx _ _ h (envG G) args W (envG_ok (Nat.le_trans hG hn)) (St.start W hk hG hn hW hone h0) hl (fun v W' => v = .bool true ∧ Below W.heap.size W W') (fun _ _ => False)
    (fun e' v v' m nx' W' he hst hv hK => by
      obtain ⟨b, rfl, rfl⟩ := asBool_yes hK
      cases hv
      exact ⟨rfl, hst.be⟩)
    (fun e' c cs m nx' W' he hst hc hK => by cases hK)
  rw [henter] at h1
  refine Calls.mono h1 fun en W' hh => ?_
  cases en with
  | returned v => obtain ⟨rfl, h2⟩ := hh; exact ⟨rfl, h2⟩
  | panicked c => obtain ⟨_, _, h2⟩ := hh; exact h2.elim
  | outgrown => exact hh.elim
end
end Go.Proofs.YtdoddlkppkegnaaGreatDoor.Ev
