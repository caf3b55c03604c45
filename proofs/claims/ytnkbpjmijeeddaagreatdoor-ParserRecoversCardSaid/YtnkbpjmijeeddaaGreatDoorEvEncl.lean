/- layout.enclosing is not walked into by the evaluator: what it answers, read off the stack of contexts. No conditions. -/
import Derived.Test.YtnkbpjmijeeddaaGreatDoorEncS
import Derived.Test.YtnkbpjmijeeddaaGreatDoorEvPrim
namespace Go.Proofs.YtnkbpjmijeeddaaGreatDoor.Ev
open Go Go.RowKit
set_option linter.unusedSimpArgs false
set_option linter.unusedVariables false
/-- n contexts that stand from cell o on. -/
noncomputable def ctxsOf (cell : Nat → AV) : Nat → Nat → Option (List Ctx)
  | 0, _ => some []
  | n + 1, o => match cell o with
    | .int k c => match cell (o + 1) with
      | .str s => match k with
        | .i64 => match ctxsOf cell n (o + 2) with
          | some l => some (⟨c, ⟨(toBs s).toArray⟩⟩ :: l)
          | none => none
        | _ => none
      | _ => none
    | _ => none
theorem ctxsOf_ok {cell : Nat → AV} : ∀ {n o : Nat} {l : List Ctx}, ctxsOf cell n o = some l → l.length = n ∧ ∀ k (hk : k < l.length), cell (o + k * 2) = .int .i64 (l[k]).col ∧ ∃ s, cell (o + k * 2 + 1) = .str s ∧ (l[k]).op = ⟨(toBs s).toArray⟩
  | 0, o, l, h => by
    rw [ctxsOf] at h
    cases h
    exact ⟨rfl, fun k hk => absurd hk (by simp)⟩
  | n + 1, o, l, h => by
    unfold ctxsOf at h
    split at h
    · rename_i kk c hc
      split at h
      · rename_i s hs
        split at h
        · split at h
          · rename_i l' hl
            cases h
            obtain ⟨h1, h2⟩ := ctxsOf_ok hl
            refine ⟨by simp [h1], fun k hk => ?_⟩
            cases k with
            | zero => exact ⟨by simpa using hc, s, by simpa using hs, rfl⟩
            | succ k =>
              obtain ⟨g1, s', g2, g3⟩ := h2 k (by simpa using hk)
              rw [show o + 2 + k * 2 = o + (k + 1) * 2 by omega] at g1 g2
              exact ⟨by simpa using g1, s', g2, by simpa using g3⟩
          · cases h
        · cases h
      · cases h
    · cases h
/-- The marker's enclosing. -/
noncomputable def enclK (m : M) (K : AV → Bool) : AV → Bool
  | .nil .s => K (.int .i64 0)
  | .slc q o es n _ => match m.at q with
    | none => false
    | some B => match ctxsOf B.cell n o with
      | none => false
      | some l => if (Nat.beq es 2 && Nat.ble (o + n * 2) B.n && Nat.ble n 10000) = true then frcI (enclP l) fun r => K (.int .i64 r) else false
  | _ => false
noncomputable def primEncl : BR := ⟨fun m l K => asCons l fun x l => isEol l (asRef x fun p o => match m.at p with
  | none => false
  | some B => if Nat.blt o B.n = true then enclK m K (B.cell o) else false)⟩
theorem encl_ok {sy : Nat → Value} {G : Nat} (henter : ∀ (a : Value) (W : World), (callFunc 21 #[a]).run Tryz.prog W = .ok (.enter 21 #[a]) W) :
    Prim1 Tryz.prog sy G 21 primEncl := by
  intro N0 W0 l K m h e args nx W hG hst hl
  obtain ⟨x, l1, rfl, h3⟩ := asCons_yes (show asCons l _ = true from h)
  obtain ⟨rfl, h4⟩ := isEol_yes h3
  obtain ⟨p, o, rfl, h5⟩ := asRef_yes h4
  cases hl with
  | cons hs hl =>
    cases hl
    cases hs with
    | ref hp =>
      rename_i r base sz
      split at h5
      · cases h5
      · rename_i B hB
        split at h5
        · rename_i ho
          have ho := blt_iff.1 ho
          obtain ⟨v, g1, g2, _⟩ := (hst.rm.blk p B r base sz hB hp).cells o ho
          generalize hcell : B.cell o = cv at h5 g2
          have fin : ∀ (A : Option Addr) (cc : Nat) (s : List Ctx), s.length ≤ 9223372036854775807 → v = .slice A s.length cc → K (.int .i64 (enclP s)) = true → (∃ g off, (0 < s.length → A = some ⟨g, off, none⟩) ∧ (0 < s.length → g < W.heap.size) ∧ ∀ k (hk : k < s.length), W.cell? ⟨g, off + k * 2, none⟩ = some (.int .i64 (s[k]).col) ∧ W.cell? ⟨g, off + k * 2 + 1, none⟩ = some (.string (s[k]).op)) →
              ∃ z z', K z = true ∧ RV sy e z z' ∧ ((callFunc 21 [Value.pointer (some ⟨r, base + o, none⟩)].toArray).run Tryz.prog W = .ok (.value z') W ∨ ((callFunc 21 [Value.pointer (some ⟨r, base + o, none⟩)].toArray).run Tryz.prog W = .ok (.enter 21 [Value.pointer (some ⟨r, base + o, none⟩)].toArray) W ∧ Calls Tryz.prog 21 [Value.pointer (some ⟨r, base + o, none⟩)].toArray W fun en W' => en = .returned z' ∧ Below W.heap.size W W')) :=
            fun A cc s q1 q2 q3 q4 => ⟨_, _, q3, RV.int _ _, .inr ⟨henter _ W, (encl_gen W r (base + o) A cc s q1 (by rw [g1, q2]) q4).mono fun en W' hh => ⟨hh.1, hh.2.below (fun _ h => h.elim) (Nat.le_refl _)⟩⟩⟩
          unfold enclK at h5
          split at h5
          · cases g2
            exact fin none 0 [] (by simp) rfl h5 ⟨0, 0, fun h => absurd h (by simp), fun h => absurd h (by simp), fun k hk => absurd hk (by simp)⟩
          · rename_i q o2 es n c
            split at h5
            · cases h5
            · rename_i B2 hB2
              split at h5
              · cases h5
              · rename_i cs hcs
                split at h5
                · rename_i hc
                  simp only [Bool.and_eq_true, Nat.beq_eq, Nat.ble_eq] at hc
                  obtain ⟨⟨rfl, hc2⟩, hc3⟩ := hc
                  obtain ⟨k1, k2⟩ := ctxsOf_ok hcs
                  rw [frcI_eq] at h5
                  cases g2 with
                  | slc hq hn hz hcp =>
                    rename_i r2 base2 sz2 cap
                    have hH := hst.rm.blk q B2 r2 base2 sz2 hB2 hq
                    refine fin (some ⟨r2, base2 + o2, none⟩) cap cs (by omega) (by rw [k1]) h5 ⟨r2, base2 + o2, fun _ => rfl, fun hpos => ?_, fun k hk => ?_⟩
                    · exact hst.rm.lt q _ hq
                    · obtain ⟨j1, s', j2, j3⟩ := k2 k hk
                      obtain ⟨v1, u1, u2, _⟩ := hH.cells (o2 + k * 2) (by omega)
                      obtain ⟨v2, u3, u4, _⟩ := hH.cells (o2 + k * 2 + 1) (by omega)
                      have u2 : RV sy e (B2.cell (o2 + k * 2)) v1 := u2
                      have u4 : RV sy e (B2.cell (o2 + k * 2 + 1)) v2 := u4
                      rw [j1] at u2
                      rw [j2] at u4
                      cases u2
                      cases u4 with
                      | str hb =>
                        rename_i b
                        have : (cs[k]).op = b := by rw [j3, toBs_of hb]
                        rw [this]
                        exact ⟨by rw [← u1]; congr 2; omega, by rw [← u3]; congr 2; omega⟩
                · cases h5
          · cases h5
        · cases h5
end Go.Proofs.YtnkbpjmijeeddaaGreatDoor.Ev
