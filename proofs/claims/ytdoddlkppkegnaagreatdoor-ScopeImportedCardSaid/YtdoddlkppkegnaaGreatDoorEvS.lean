/- The evaluator cuts strings and slices, and builds structs, as the model does. No conditions. -/
import Derived.Test.YtdoddlkppkegnaaGreatDoorEvQ
import Derived.Lib.Strings
namespace Go.Proofs.YtdoddlkppkegnaaGreatDoor.Ev
set_option linter.unusedVariables false
open Go Go.RowKit
set_option linter.unusedSimpArgs false
section
variable {sy : Nat → Value} {N0 : Par} {W0 : World} {P : Program} {G : Nat}
def IsB (v : Option Value) (n d : Nat) : Prop := (v = none ∧ n = d) ∨ ∃ k, v = some (.int k (n : Int))
theorem bound_run {k : IntKind} {n y : Nat} {c : BoundsCode} (h : n ≤ y) (W : World) : (Instr.sliceBound (.int k (n : Int)) y c).run P W = .ok n W := by
  have h1 : (0 : Int) ≤ (n : Int) ∧ (n : Int) ≤ (y : Int) := ⟨by omega, by omega⟩
  simp [Instr.sliceBound, asIntOf, h1, h]
theorem bounds_run {isSlice : Bool} {len cap l h m : Nat} {low high max : Option Value} (hl : IsB low l 0) (hh : IsB high h len) (hm : IsB max m cap) (hx : high.isSome = true ∨ max = none) (h1 : l ≤ h) (h2 : h ≤ m) (h3 : m ≤ cap) (W : World) :
    (Instr.sliceBounds isSlice len cap low high max).run P W = .ok (l, h, m) W := by
  rcases hm with ⟨rfl, rfl⟩ | ⟨km, rfl⟩
  · rcases hh with ⟨rfl, rfl⟩ | ⟨kh, rfl⟩ <;> rcases hl with ⟨rfl, rfl⟩ | ⟨kl, rfl⟩ <;> simp [Instr.sliceBounds, bound_run, h1, h2, h3]
  · rcases hh with ⟨rfl, rfl⟩ | ⟨kh, rfl⟩
    · simp at hx
    · rcases hl with ⟨rfl, rfl⟩ | ⟨kl, rfl⟩ <;> simp [Instr.sliceBounds, bound_run, h1, h2, h3]
theorem natK_ok {e : Env} {a : T AV} {act : Act} (hG : ∀ g, g < G → ∃ sz, e g = some (g, 0, sz)) {l : Array Operand} (ho : Ops sy e a act l) {lo : Option Operand} (hx : ∀ x, lo = some x → x ∈ l) {d : Nat} {K : Nat → Bool} (h : natK (cBound G lo) a d K = true) :
    ∃ n, K n = true ∧ IsB (lo.map act.eval) n d := by
  cases lo with
  | none => exact ⟨d, h, .inl ⟨rfl, rfl⟩⟩
  | some x =>
    obtain ⟨v, h1, h2⟩ := cOpd_ok hG ho (hx x rfl) (K := fun v => asInt v fun _ n => asNat n K) h
    obtain ⟨k, q, rfl, h3⟩ := asInt_yes h1
    obtain ⟨n, rfl, h4⟩ := asNat_yes h3
    generalize hc : act.eval x = cv at h2
    cases h2
    exact ⟨n, h4, .inr ⟨k, by simp [hc]⟩⟩
theorem op_slice (t : TypeId) (x : Operand) (lo hi mx : Option Operand) : OpOk P sy N0 W0 G (cOp P G (.slice t x lo hi mx)) (.slice t x lo hi mx) := by
  have mem : ∀ y, lo = some y ∨ hi = some y ∨ mx = some y → y ∈ (Op.slice t x lo hi mx).operands := by
    intro y hy
    rcases hy with rfl | rfl | rfl <;> simp [Op.operands]
  cases hu : P.underlying t with
  | none => simp only [cOp, hu, BX.f, undF_eq, infoF_eq, funF_eq]; exact xNo_ok
  | some d =>
    by_cases h0 : (d = .string ∧ mx = none) ∨ ∃ el, d = .slice el
    · rcases h0 with ⟨rfl, rfl⟩ | ⟨el, rfl⟩
      · simp only [cOp, hu, BX.f, undF_eq, infoF_eq, funF_eq]
        refine xP_ok ?_
        intro a K h e act hG hops
        obtain ⟨v, h1, h2⟩ := cOpd_ok hG hops (x := x) (by simp [Op.operands]) h
        obtain ⟨s, rfl, h3⟩ := asStr_yes h1
        rw [lenK_eq] at h3
        obtain ⟨l, h4, hl⟩ := natK_ok hG hops (fun y hy => mem y (.inl hy)) h3
        obtain ⟨q, h5, hh⟩ := natK_ok hG hops (fun y hy => mem y (.inr (.inl hy))) h4
        obtain ⟨h6, h7⟩ := ifB_yes h5
        simp only [Bool.and_eq_true] at h6
        have hlq := ble_iff.1 h6.1
        have hqs := ble_iff.1 h6.2
        unfold cutNs at h7
        rw [takeNs_eq, dropNs_eq] at h7
        generalize hc : act.eval x = cv at h2
        cases h2 with
        | str hs =>
          rename_i b
          have hsz := str_size hs
          refine ⟨_, .string (b.extract l q), h7, .str ?_, fun o W ho => ?_⟩
          · rw [← toList_map, Lib.extract_toList]
            subst hs
            rw [List.map_take, List.map_drop, List.drop_take]
          · have hb := bounds_run (P := P) (isSlice := false) (len := b.size) (cap := b.size) (m := b.size) hl (hsz ▸ hh) (.inl ⟨rfl, rfl⟩) (.inr rfl) hlq (by omega) (Nat.le_refl _) W
            simp [execOp, ho, hc, Instr.sliceAt, Instr.slice, run_underlying hu, hb]
      · cases hs : sizeAt P el with
        | none => simp only [cOp, hu, hs, BX.f, undF_eq, infoF_eq, funF_eq]; exact xNo_ok
        | some es =>
          cases hm : (hi.isSome || mx.isNone) with
          | false => simp only [cOp, hu, hs, hm, BX.f, undF_eq, infoF_eq, funF_eq]; exact xNo_ok
          | true =>
            have hx' : (hi.map (fun y => y)).isSome = true ∨ mx = none := by
              cases hi <;> cases mx <;> simp_all
            simp only [cOp, hu, hs, hm, BX.f, undF_eq, infoF_eq, funF_eq]
            refine xP_ok ?_
            intro a K h e act hG hops
            obtain ⟨v, h1, h2⟩ := cOpd_ok hG hops (x := x) (by simp [Op.operands]) h
            have hx2 : (hi.map act.eval).isSome = true ∨ mx.map act.eval = none := by
              cases hi <;> cases mx <;> simp_all
            rcases asSlc_yes h1 with ⟨p, o', es', n, c, rfl, h3⟩ | ⟨rfl, h3⟩
            · obtain ⟨h4, h5⟩ := ifB_yes h3
              obtain rfl := beq_iff.1 h4
              obtain ⟨l, h6, hl⟩ := natK_ok hG hops (fun y hy => mem y (.inl hy)) h5
              obtain ⟨q, h7, hh⟩ := natK_ok hG hops (fun y hy => mem y (.inr (.inl hy))) h6
              obtain ⟨h8, h9⟩ := ifB_yes h7
              have hlq := ble_iff.1 h8
              generalize hc : act.eval x = cv at h2
              cases h2 with
              | slc hp hn hsz hcap =>
                rename_i r base sz cap
                -- what the model runs, given the bounds
                have key : ∀ (g : Nat), IsB (mx.map act.eval) g cap → q ≤ g → g ≤ cap → ∀ (o : Oper) (W : World), o.op = .slice t x lo hi mx →
                    (execOp act.eval o).run P W = .ok (.value (.slice (if g = l then some ⟨r, base + o', none⟩ else some ⟨r, base + (o' + l * es'), none⟩) (q - l) (g - l))) W := by
                  intro g hg hqg hgc o W ho
                  have hb := bounds_run (P := P) (isSlice := true) (len := n) (cap := cap) hl hh hg hx2 hlq hqg hgc W
                  by_cases hgl : g = l <;> simp [execOp, ho, hc, Instr.sliceAt, Instr.slice, run_underlying hu, hb, sizeAt_run hs, Addr.add_lit, hgl, Nat.add_assoc]
                have room : ∀ g, g ≤ cap → l ≤ g → o' + l * es' + (g - l) * es' ≤ sz := by
                  intro g hg hlg
                  have : l * es' + (g - l) * es' = g * es' := by rw [← Nat.add_mul]; congr 1; omega
                  have : g * es' ≤ cap * es' := Nat.mul_le_mul_right _ hg
                  omega
                cases mx with
                | none =>
                  cases c with
                  | none =>
                    obtain ⟨h10, h11⟩ := ifB_yes (b := Nat.ble q n) h9
                    obtain ⟨h12, h13⟩ := ifB_yes h11
                    simp only [frcN_eq] at h13
                    have hqn := ble_iff.1 h10
                    have hl2 : l < n ∨ l = 0 := by
                      simp only [Bool.or_eq_true] at h12
                      exact h12.imp blt_iff.1 beq_iff.1
                    refine ⟨_, _, h13, .slc (r := r) (base := base) (sz := sz) (cap := cap - l) hp (by show q - l ≤ cap - l; omega) (room cap (Nat.le_refl _) (by omega)) (fun k hk => by cases hk), fun o W ho => ?_⟩
                    rw [key cap (.inl ⟨rfl, rfl⟩) (by omega) (Nat.le_refl _) o W ho]
                    by_cases hcl : cap = l
                    · have : l = 0 := by omega
                      subst this
                      simp [hcl]
                    · rw [if_neg hcl]; rfl
                  | some c =>
                    obtain rfl := hcap c rfl
                    obtain ⟨h10, h11⟩ := ifB_yes (b := Nat.ble q cap) h9
                    have hqc := ble_iff.1 h10
                    cases hlc : Nat.beq l cap with
                    | true =>
                      have hlc' := beq_iff.1 hlc
                      rw [hlc] at h11
                      have h12 : K (.slc p o' es' 0 (some 0)) = true := h11
                      refine ⟨_, _, h12, .slc (r := r) (base := base) (sz := sz) (cap := 0) hp (Nat.le_refl _) (by omega) (fun k hk => by cases hk; rfl), fun o W ho => ?_⟩
                      rw [key cap (.inl ⟨rfl, rfl⟩) hqc (Nat.le_refl _) o W ho, if_pos hlc'.symm]
                      have e1 : q - l = 0 := by omega
                      have e2 : cap - l = 0 := by omega
                      rw [e1, e2]
                    | false =>
                      have hlc' : ¬ cap = l := fun h => by rw [h, beq_yes rfl] at hlc; cases hlc
                      rw [hlc] at h11
                      have h12 : (frcN (Nat.add o' (Nat.mul l es')) fun o => frcN (Nat.sub q l) fun n => frcN (Nat.sub cap l) fun c => K (.slc p o es' n (some c))) = true := h11
                      simp only [frcN_eq] at h12
                      refine ⟨_, _, h12, .slc (r := r) (base := base) (sz := sz) (cap := cap - l) hp (by show q - l ≤ cap - l; omega) (room cap (Nat.le_refl _) (by omega)) (fun k hk => by cases hk; rfl), fun o W ho => ?_⟩
                      rw [key cap (.inl ⟨rfl, rfl⟩) hqc (Nat.le_refl _) o W ho, if_neg hlc']; rfl
                | some mo =>
                  have h10 : (cOpd G mo).k a (fun v => asInt v fun _ g => asNat g fun g => ifB (Nat.ble q g && Nat.ble g n) (ifB (Nat.beq l g) (K (.slc p o' es' 0 (some 0))) (frcN (Nat.add o' (Nat.mul l es')) fun o => frcN (Nat.sub q l) fun n => frcN (Nat.sub g l) fun c => K (.slc p o es' n (some c)))) false) = true := h9
                  obtain ⟨w, h11, h12⟩ := cOpd_ok hG hops (x := mo) (mem mo (.inr (.inr rfl))) h10
                  obtain ⟨k, g', rfl, h13⟩ := asInt_yes h11
                  obtain ⟨g, rfl, h14⟩ := asNat_yes h13
                  obtain ⟨h15, h16⟩ := ifB_yes h14
                  simp only [Bool.and_eq_true] at h15
                  have hqg := ble_iff.1 h15.1
                  have hgn := ble_iff.1 h15.2
                  generalize hmo : act.eval mo = mv at h12
                  cases h12
                  have hgB : IsB ((some mo).map act.eval) g cap := .inr ⟨k, by simp [hmo]⟩
                  cases hlc : Nat.beq l g with
                  | true =>
                    have hlc' := beq_iff.1 hlc
                    rw [hlc] at h16
                    have h17 : K (.slc p o' es' 0 (some 0)) = true := h16
                    refine ⟨_, _, h17, .slc (r := r) (base := base) (sz := sz) (cap := 0) hp (Nat.le_refl _) (by omega) (fun k hk => by cases hk; rfl), fun o W ho => ?_⟩
                    rw [key g hgB hqg (by omega) o W ho, if_pos hlc'.symm]
                    have e1 : q - l = 0 := by omega
                    have e2 : g - l = 0 := by omega
                    rw [e1, e2]
                  | false =>
                    have hlc' : ¬ g = l := fun h => by rw [h, beq_yes rfl] at hlc; cases hlc
                    rw [hlc] at h16
                    have h17 : (frcN (Nat.add o' (Nat.mul l es')) fun o => frcN (Nat.sub q l) fun n => frcN (Nat.sub g l) fun c => K (.slc p o es' n (some c))) = true := h16
                    simp only [frcN_eq] at h17
                    refine ⟨_, _, h17, .slc (r := r) (base := base) (sz := sz) (cap := g - l) hp (by show q - l ≤ g - l; omega) (room g (by omega) (by omega)) (fun k hk => by cases hk; rfl), fun o W ho => ?_⟩
                    rw [key g hgB hqg (by omega) o W ho, if_neg hlc']; rfl
            · obtain ⟨l, h6, hl⟩ := natK_ok hG hops (fun y hy => mem y (.inl hy)) h3
              obtain ⟨q, h7, hh⟩ := natK_ok hG hops (fun y hy => mem y (.inr (.inl hy))) h6
              obtain ⟨g, h8, hg⟩ := natK_ok hG hops (fun y hy => mem y (.inr (.inr hy))) h7
              obtain ⟨h9, h10⟩ := ifB_yes h8
              simp only [Bool.and_eq_true] at h9
              obtain rfl := beq_iff.1 h9.1.1
              obtain rfl := beq_iff.1 h9.1.2
              obtain rfl := beq_iff.1 h9.2
              generalize hc : act.eval x = cv at h2
              cases h2
              refine ⟨_, _, h10, .nils, fun o W ho => ?_⟩
              have hb := bounds_run (P := P) (isSlice := true) (len := 0) (cap := 0) hl hh hg hx2 (Nat.le_refl _) (Nat.le_refl _) (Nat.le_refl _) W
              simp [execOp, ho, hc, Instr.sliceAt, Instr.slice, run_underlying hu, hb, sizeAt_run hs]
    · have e1 : cOp P G (.slice t x lo hi mx) = xNo := by
        simp only [cOp, hu, BX.f, undF_eq, infoF_eq, funF_eq]
        cases d <;> first | rfl | exact absurd (.inr ⟨_, rfl⟩) h0 | (cases mx <;> first | rfl | exact absurd (.inl ⟨rfl, rfl⟩) h0)
      rw [e1]; exact xNo_ok
end
end Go.Proofs.YtdoddlkppkegnaaGreatDoor.Ev
