/- slices.ContainsFunc at types where the predicate writes memory. unify.occurs. -/
import Derived.Test.YthchnabhbpdfgaaDoorUSub
import Derived.Deep.LoopGhost
import Derived.Outline
import Derived.Deep.RegionHeld3
import Derived.Deep.DeepCutAuto
section
namespace Go.Proofs.YthchnabhbpdfgaaDoor
open Go.RowKit Go.Shelf

set_option maxHeartbeats 400000 in
theorem tyIndexFuncS (l : List Ty) (v : Value) (F : Nat → Prop) (w : World) (m : FuncId) (cap : Array Value) (eg : Enters Tryd.prog m) (I : Nat → World → Prop) (J : World → Prop) (hI : I 0 w) (hv : ∀ k W, I k W → Sl W F tyD l v)
    (hc : ∀ k (h : k < l.length) W, I k W → ∀ av, TyC W F l[k] av → Calls Tryd.prog m (#[tyV l[k] av] ++ cap) W (Asked1 (I (k + 1)) J)) :
    Calls Tryd.prog 53 #[v, .func (.func m) #[] cap] w (Indexed l.length I J) := by
  obtain ⟨A, c, rfl, hlc, hcm, _⟩ := (hv 0 w hI).form
  have hl : l.length ≤ 9223372036854775807 := by unfold maxLen at hcm; omega
  have HC := Lib.hid hc
  have HV := Lib.hid hv
  clear hc hv
  unfold Enters at eg
  go_enter Tryd.func53, Tryd.ntmps53
  go_wp2
  go_loopw [5, 8] (fun _ i wr => ∃ k : Nat, k ≤ l.length ∧ i = .int .i64 k ∧ Hid (I k wr)) (fun _ i _ => l.length - (intOf i).toNat)
  case atStart => exact ⟨0, Nat.zero_le _, rfl, hI⟩
  case round =>
    obtain ⟨k, hk, rfl, hik⟩ := hrel
    by_cases hlt : k < l.length
    · obtain ⟨g, off, av, hadr, hF, e0, e1, e2, e3, hT⟩ := tyD.get (HV.out k wr hik.out) hlt
      obtain rfl := hadr
      have HN := Lib.hid (HC.out k hlt wr hik.out av hT)
      obtain ⟨y, hy⟩ : ∃ y, l[k] = y := ⟨_, rfl⟩
      rw [hy] at e0 e1 e2 HN
      unfold tyV at HN
      have k0 : (0 : Int) ≤ (k : Int) := by omega
      have k1 : (k : Int) < (l.length : Int) := by omega
      clear hy hT
      go_wp2_with fail
      refine HN.out.mono ?_
      rintro e w1 (⟨rfl, hi1⟩ | ⟨rfl, hj1⟩)
      · have HI1 := Lib.hid hi1
        clear hi1
        go_wp2
        go_roundw
        case rel => exact ⟨k + 1, by omega, by go_num, HI1.out⟩
        case measure => simp [intOf]; omega
      · have HJ1 := Lib.hid hj1
        clear hj1
        go_wp2
        go_ret
        exact .inr ⟨k, rfl, HJ1.out⟩
    · obtain rfl : k = l.length := by omega
      have k1 : ¬ (l.length : Int) < (l.length : Int) := by omega
      go_wp2
      go_ret
      exact .inl ⟨rfl, hik.out⟩
set_option maxHeartbeats 400000 in
theorem tyContainsFuncS (l : List Ty) (v : Value) (F : Nat → Prop) (w : World) (m : FuncId) (cap : Array Value) (eg : Enters Tryd.prog m) (I : Nat → World → Prop) (J : World → Prop) (hI : I 0 w) (hv : ∀ k W, I k W → Sl W F tyD l v)
    (hc : ∀ k (h : k < l.length) W, I k W → ∀ av, TyC W F l[k] av → Calls Tryd.prog m (#[tyV l[k] av] ++ cap) W (Asked1 (I (k + 1)) J)) :
    Calls Tryd.prog 49 #[v, .func (.func m) #[] cap] w (Asked l.length I J) := by
  have HN := Lib.hid (tyIndexFuncS l v F w m cap eg I J hI hv hc)
  clear hc hv hI
  clear eg
  go_enter Tryd.func49, Tryd.ntmps49
  go_wp2_with fail
  refine HN.out.mono ?_
  rintro e w1 (⟨rfl, hi1⟩ | ⟨k, rfl, hj1⟩)
  · have HI1 := Lib.hid hi1
    clear hi1
    go_wp2
    go_ret
    exact .inl ⟨rfl, HI1.out⟩
  · have HJ1 := Lib.hid hj1
    have k0 : (0 : Int) ≤ (k : Int) := by omega
    clear hj1
    go_wp2
    go_ret
    exact .inr ⟨ret_bool (by simp), HJ1.out⟩

/-! ### occurs, in plain words -/
def occL (f : List Bool → Ty → Option (Bool × List Bool)) : List Ty → List Bool → Option (Bool × List Bool)
  | [], s => some (false, s)
  | a :: r, s => match f s a with
    | none => none
    | some (true, s') => some (true, s')
    | some (false, s') => occL f r s'
def occP (σ : List Ty) (v : Int) : Nat → List Bool → Ty → Option (Bool × List Bool)
  | 0, _, _ => none
  | k + 1, s, t =>
    if t.kind = 0 then
      if t.var = v ∨ s.getD t.var.toNat false = true then some (decide (t.var = v), s)
      else match σ[t.var.toNat]? with
        | none => none
        | some x => if x.kind ≠ 0 ∨ x.var ≠ t.var then occP σ v k (s.set t.var.toNat true) x else some (false, s.set t.var.toNat true)
    else occL (occP σ v k) t.args s

def bools (l : List Bool) : List Value := l.map Value.bool
theorem bools_get {l : List Bool} {i : Nat} (h : i < l.length) : (bools l)[i]? = some (.bool (l.getD i false)) := by
  simp [bools, List.getElem?_eq_getElem h]
theorem bools_set (l : List Bool) (i : Nat) (x : Bool) : (bools l).set i (.bool x) = bools (l.set i x) := by simp [bools, List.map_set]
def OccAt (σ : List Ty) (v : Int) (k : Nat) : Prop := ∀ (sv : Value) (G : Nat → Prop) (W : World) (p g : Nat) (s : List Bool) (t : Ty) (av : Value) (b : Bool) (s' : List Bool), Sl W G tyD σ sv → Blk W p 56 [sv] → Blk W g 4 (bools s) → (∀ b, G b → b ≠ g ∧ b < W.heap.size) →
  s.length = σ.length → TyC W G t av → VIn σ t → occP σ v k s t = some (b, s') →
  Calls Tryd.prog 44 #[.pointer (some ⟨p, 0, none⟩), .int .i64 v, tyV t av, .slice (some ⟨g, 0, none⟩) s.length s.length] W fun e w' => e = .returned (.bool b) ∧ Blk w' g 4 (bools s') ∧ Keeps (· = g) W w'
theorem occL_len {f : List Bool → Ty → Option (Bool × List Bool)} (hf : ∀ s t b s', f s t = some (b, s') → s'.length = s.length) : ∀ (l : List Ty) (s : List Bool) (b : Bool) (s' : List Bool), occL f l s = some (b, s') → s'.length = s.length
  | [], s, b, s', h => by simp only [occL, Option.some.injEq, Prod.mk.injEq] at h; rw [h.2]
  | x :: r, s, b, s', h => by
    rw [occL] at h
    split at h
    · cases h
    · rename_i s1 h1
      simp only [Option.some.injEq, Prod.mk.injEq] at h
      rw [← h.2]; exact hf _ _ _ _ h1
    · rename_i s1 h1
      rw [occL_len hf r s1 b s' h]; exact hf _ _ _ _ h1
theorem occP_len (σ : List Ty) (v : Int) : ∀ (k : Nat) (s : List Bool) (t : Ty) (b : Bool) (s' : List Bool), occP σ v k s t = some (b, s') → s'.length = s.length
  | 0, _, _, _, _, h => by cases h
  | k + 1, s, t, b, s', h => by
    rw [occP] at h
    split at h
    · split at h
      · simp only [Option.some.injEq, Prod.mk.injEq] at h
        rw [h.2]
      · split at h
        · cases h
        · split at h
          · rw [occP_len σ v k _ _ _ _ h, List.length_set]
          · simp only [Option.some.injEq, Prod.mk.injEq] at h
            rw [← h.2, List.length_set]
    · exact occL_len (occP_len σ v k) _ _ _ _ h
set_option maxHeartbeats 400000 in
/-- The closure that occurs asks with. -/
theorem occ_clo (σ : List Ty) (v : Int) (k : Nat) (ih : OccAt σ v k) (b4 b5 b7 : Nat) (sv : Value) (G : Nat → Prop) (W : World) (p g : Nat) (s : List Bool) (t : Ty) (av : Value) (b : Bool) (s' : List Bool)
    (h4 : W.cell? ⟨b4, 0, none⟩ = some (.pointer (some ⟨p, 0, none⟩))) (h5 : W.cell? ⟨b5, 0, none⟩ = some (.int .i64 v)) (h7 : W.cell? ⟨b7, 0, none⟩ = some (.slice (some ⟨g, 0, none⟩) s.length s.length))
    (hS : Sl W G tyD σ sv) (hP : Blk W p 56 [sv]) (hB : Blk W g 4 (bools s)) (hG : ∀ b, G b → b ≠ g ∧ b < W.heap.size) (hlen : s.length = σ.length) (hT : TyC W G t av) (hV : VIn σ t) (hc : occP σ v k s t = some (b, s')) :
    Calls Tryd.prog 50 (#[tyV t av] ++ #[.pointer (some ⟨b4, 0, none⟩), .pointer (some ⟨b5, 0, none⟩), .pointer (some ⟨b7, 0, none⟩)]) W fun e w' => e = .returned (.bool b) ∧ Blk w' g 4 (bools s') ∧ Keeps (· = g) W w' := by
  obtain ⟨A, c, rfl, _⟩ := hT.form
  have l4 := block_lt_of_cell h4
  have l5 := block_lt_of_cell h5
  have l7 := block_lt_of_cell h7
  obtain ⟨W1, hW1⟩ : ∃ W1, W.alloc (.cells #[.int .i64 t.kind, .string t.name, .int .i64 t.var, .slice A t.args.length c] 24) = W1 := ⟨_, rfl⟩
  have hk : Keeps (fun _ => False) W W1 := by rw [← hW1]; exact (Keeps.refl _ _).alloc _
  have HC := Lib.hid (ih sv G W1 p g s t _ b s' (hS.keeps hk (fun _ _ h => h)) (hP.keeps hk (fun h => h)) (hB.keeps hk (fun h => h)) (fun i hi => ⟨(hG i hi).1, by have := (hG i hi).2; have := hk.size; omega⟩) hlen (hT.keeps hk (fun _ _ h => h)) hV hc)
  unfold tyV at HC
  have HW1 := Lib.hid hW1
  have HK := Lib.hid hk
  change Calls Tryd.prog 50 #[tyV t (.slice A t.args.length c), .pointer (some ⟨b4, 0, none⟩), .pointer (some ⟨b5, 0, none⟩), .pointer (some ⟨b7, 0, none⟩)] W _
  unfold tyV
  clear hS hP hB hG hlen hT hV hc ih hW1 hk
  go_enter Tryd.func50, Tryd.ntmps50
  go_wp2_with fail
  rw [HW1.out]
  with_reducible refine HC.out.mono ?_
  rintro e w' ⟨rfl, h1, h2⟩
  have H1 := Lib.hid h1
  have H2 := Lib.hid h2
  clear h1 h2
  go_wp2_with fail
  go_ret
  exact ⟨rfl, H1.out, (HK.out.mono (Y := (· = g)) (fun _ _ h => h.elim)).trans H2.out (fun _ _ h => h)⟩
end Go.Proofs.YthchnabhbpdfgaaDoor
end

section
namespace Go.Proofs.YthchnabhbpdfgaaDoor
open Go.RowKit Go.Shelf

set_option maxRecDepth 100000 in
set_option maxHeartbeats 16000000 in
theorem occ_step (σ : List Ty) (hσ : SubIn σ) (v : Int) (k : Nat) (ih : ∀ m, m < k → OccAt σ v m) : OccAt σ v k := by
  intro sv G W p g s t av b s' hS hP hB hG hlen hT hV hr
  obtain ⟨A, c, rfl, hlc, hcm, _⟩ := hS.form
  obtain ⟨A2, c2, rfl, hlc2, hcm2, _⟩ := hT.form
  have hlm : σ.length ≤ 9223372036854775807 := by unfold maxLen at hcm; omega
  have hpg : p ≠ g := fun e => by
    subst e
    unfold Blk at hP hB
    rw [hP] at hB
    simp only [Option.some.injEq, Obj.cells.injEq] at hB
    exact absurd hB.2.1 (by decide)
  have hpl := hP.lt
  have hgl := hB.lt
  have HIH := Lib.hid ih
  have Hσ := Lib.hid hσ
  have HG := Lib.hid hG
  have hG2 : ∀ i, G i → i < W.heap.size := fun i hi => (hG i hi).2
  unfold tyV
  obtain ⟨b0, hb0⟩ : ∃ b0, W.heap.size = b0 := ⟨_, rfl⟩
  have hpb : p < b0 := by omega
  have hgb : g < b0 := by omega
  obtain ⟨W0, hW0⟩ : ∃ W0, (((W.alloc (.cells #[.pointer (some ⟨p, 0, none⟩)] 53)).alloc (.cells #[.int .i64 v] 3)).alloc (.cells #[.int .i64 t.kind, .string t.name, .int .i64 t.var, .slice A2 t.args.length c2] 24)).alloc (.cells #[.slice (some ⟨g, 0, none⟩) s.length s.length] 75) = W0 := ⟨_, rfl⟩
  have hk0 : Keeps (fun _ => False) W W0 := by rw [← hW0]; exact ((((Keeps.refl _ _).alloc _).alloc _).alloc _).alloc _
  have hw1 : Blk W0 b0 53 [.pointer (some ⟨p, 0, none⟩)] := by
    rw [← hW0, ← hb0]; exact (((Blk.new W _ [_]).alloc _).alloc _).alloc _
  have hw2 : Blk W0 (b0 + 1) 3 [.int .i64 v] := by
    rw [← hW0]
    have := ((Blk.new (W.alloc (.cells #[.pointer (some ⟨p, 0, none⟩)] 53)) 3 [.int .i64 v]).alloc (.cells #[.int .i64 t.kind, .string t.name, .int .i64 t.var, .slice A2 t.args.length c2] 24)).alloc (.cells #[.slice (some ⟨g, 0, none⟩) s.length s.length] 75)
    simpa [hb0] using this
  have hw3 : Blk W0 (b0 + 2) 24 [.int .i64 t.kind, .string t.name, .int .i64 t.var, .slice A2 t.args.length c2] := by
    rw [← hW0]
    have := (Blk.new ((W.alloc (.cells #[.pointer (some ⟨p, 0, none⟩)] 53)).alloc (.cells #[.int .i64 v] 3)) 24 [.int .i64 t.kind, .string t.name, .int .i64 t.var, .slice A2 t.args.length c2]).alloc (.cells #[.slice (some ⟨g, 0, none⟩) s.length s.length] 75)
    simpa [hb0] using this
  have hw4 : Blk W0 (b0 + 3) 75 [.slice (some ⟨g, 0, none⟩) s.length s.length] := by
    have := Blk.new (((W.alloc (.cells #[.pointer (some ⟨p, 0, none⟩)] 53)).alloc (.cells #[.int .i64 v] 3)).alloc (.cells #[.int .i64 t.kind, .string t.name, .int .i64 t.var, .slice A2 t.args.length c2] 24)) 75 [.slice (some ⟨g, 0, none⟩) s.length s.length]
    rw [hW0] at this
    simpa [hb0] using this
  have hG2 : ∀ i, G i → i < b0 := fun i hi => by rw [← hb0]; exact hG2 i hi
  have HS2 := Lib.hid hG2
  have HS := Lib.hid (hS.keeps hk0 (fun _ _ h => h))
  have HP := Lib.hid (hP.keeps hk0 (fun h => h))
  have HB := Lib.hid (hB.keeps hk0 (fun h => h))
  have HT := Lib.hid (hT.keeps hk0 (fun _ _ h => h))
  have HV := Lib.hid hV
  have HR := Lib.hid hr
  have HLen := Lib.hid hlen
  have HK0 := Lib.hid hk0
  have H1 := Lib.hid hw1
  have H2 := Lib.hid hw2
  have H3 := Lib.hid hw3
  have H4 := Lib.hid hw4
  have HW0 := Lib.hid hW0
  have HB0 := Lib.hid hb0
  clear hS hP hB hT hV hr hlen hk0 hw1 hw2 hw3 hw4 hW0 hb0 ih hσ hG hG2
  go_enter Tryd.func44, Tryd.ntmps44
  go_wp2_with fail
  rw [HW0.out, HB0.out]
  go_loopg [9] k (fun q _ wr => ∃ (cur : Ty) (cv : Value) (s1 : List Bool), Blk wr (b0 + 2) 24 [.int .i64 cur.kind, .string cur.name, .int .i64 cur.var, cv] ∧ TyC wr G cur cv ∧ VIn σ cur ∧ s1.length = s.length ∧ Blk wr g 4 (bools s1) ∧ Keeps (fun i => i = g ∨ i = b0 + 2) W0 wr ∧ q ≤ k ∧ Hid (occP σ v q s1 cur = some (b, s')))
  case atStart => exact ⟨t, _, s, H3.out, HT.out, HV.out, rfl, HB.out, Keeps.refl _ _, Nat.le_refl _, HR.out⟩
  case round =>
    obtain ⟨cur, cv, s1, hbt, hTc, hvi, hl1, hbg, hk, hqk, hw⟩ := hrel
    obtain ⟨A3, c3, rfl, hlc3, hcm3, _⟩ := hTc.form
    cases gk with
    | zero => have := hw.out; rw [occP] at this; cases this
    | succ q =>
      have hw1 := hw.out
      rw [occP] at hw1
      have d0 := hbt.cell (i := 0) rfl
      have d2 := hbt.cell (i := 2) rfl
      have d3 := hbt.cell (i := 3) rfl
      have m0 := (H1.out.keeps hk (fun h => by omega)).cell (i := 0) rfl
      have m1 := (H2.out.keeps hk (fun h => by omega)).cell (i := 0) rfl
      have m3 := (H4.out.keeps hk (fun h => by omega)).cell (i := 0) rfl
      have hbt_lt := hbt.lt
      have hgw := hbg.lt
      have hKg : Keeps (· = g) W wr := (HK0.out.mono (Y := (· = g)) (fun _ _ h => h.elim)).trans hk (fun i hi h => by have := HB0.out; omega)
      have HTc := Lib.hid hTc
      have HK := Lib.hid hk
      have HKG := Lib.hid hKg
      have HBg := Lib.hid hbg
      have HBt := Lib.hid hbt
      have HVi := Lib.hid hvi
      by_cases h0 : cur.kind = 0
      · rw [if_pos h0] at hw1
        obtain ⟨hv0, hv1⟩ := hvi cur.var (by rw [freeP_var h0]; simp)
        obtain ⟨j, hj⟩ : ∃ j : Nat, cur.var = (j : Int) := ⟨cur.var.toNat, by omega⟩
        have hLen := HLen.out
        have hjl : j < σ.length := by omega
        have hjs : j < s1.length := by omega
        have hjs2 : (j : Int) < (s.length : Int) := by omega
        have j0 : (0 : Int) ≤ (j : Int) := by omega
        have j1 : (j : Int) < (σ.length : Int) := by omega
        have sb := hbg.cell (bools_get hjs)
        have fb := hbg.free j
        rw [hj, Int.toNat_natCast, List.getElem?_eq_getElem hjl] at hw1
        rw [h0] at d0
        rw [hj] at d2
        obtain ⟨x, hx⟩ : ∃ x, σ[j] = x := ⟨_, rfl⟩
        have hvx := Hσ.out _ (List.getElem_mem hjl)
        obtain ⟨gx, off, xv, hadr, hg, e0, e1, e2, e3, hTx⟩ := tyD.get ((HS.out.keeps hk (fun i hi h => by have := (HG.out i hi).1; have := HS2.out i hi; omega))) hjl
        obtain rfl := hadr
        rw [hx] at hw1 e0 e1 e2 hTx hvx
        obtain ⟨A4, c4, rfl, _⟩ := hTx.form
        have hgxg : gx ≠ g := (HG.out gx hg).1
        have hgxw := block_lt_of_cell e0
        have hgxb : gx < b0 := HS2.out gx hg
        obtain ⟨z, hz⟩ : ∃ z, s1.getD j false = z := ⟨_, rfl⟩
        rw [hz] at sb hw1
        have n0 := (HP.out.keeps hk (fun h => by omega)).cell (i := 0) rfl
        have HW1 := Lib.hid hw1
        have HHx := Lib.hid hx
        have HVx := Lib.hid hvx
        have HTx := Lib.hid hTx
        have HC0 := Lib.hid h0
        have HJ := Lib.hid hj
        have HHz := Lib.hid hz
        have HL1 := Lib.hid hl1
        clear hw hw1 hTc hk hKg hvi hbt hbg hx hvx hTx h0 hj hz hv0 hv1 hLen hl1
        by_cases hA : (j : Int) = v
        · have hAb : ((j : Int) == v) = true := beq_iff_eq.2 hA
          have HR1 := HW1.out
          rw [if_pos (.inl hA)] at HR1
          have HR2 := Lib.hid HR1
          have HAd : Hid (decide ((j : Int) = v) = true) := decide_eq_true hA
          clear HR1 hA
          go_wp2
          go_ret
          simp only [Option.some.injEq, Prod.mk.injEq] at HR2
          refine ⟨?_, ?_, HKG.out⟩
          · rw [← HR2.out.1, HAd.out]; rfl
          · rw [← HR2.out.2]; exact HBg.out
        · have hAb : ((j : Int) == v) = false := by rw [beq_eq_false_iff_ne]; exact hA
          cases z with
          | true =>
            have HR1 := HW1.out
            rw [if_pos (.inr rfl)] at HR1
            have HR2 := Lib.hid HR1
            have HAd : Hid (decide ((j : Int) = v) = false) := decide_eq_false hA
            clear HR1 hA
            go_wp2
            go_ret
            simp only [Option.some.injEq, Prod.mk.injEq] at HR2
            refine ⟨?_, ?_, HKG.out⟩
            · rw [← HR2.out.1, HAd.out]; rfl
            · rw [← HR2.out.2]; exact HBg.out
          | false =>
            have HR1 := HW1.out
            rw [if_neg (fun h => h.elim hA (fun h => Bool.noConfusion h))] at HR1
            dsimp only at HR1
            obtain ⟨W1, hW1⟩ : ∃ W1, wr.setCell ⟨g, j, none⟩ (.bool true) = W1 := ⟨_, rfl⟩
            have hB1 : Blk W1 g 4 (bools (s1.set j true)) := by rw [← hW1, ← bools_set]; exact HBg.out.set_ j _
            have hk1 : Keeps (· = g) wr W1 := by rw [← hW1]; exact (Keeps.refl (· = g) wr).setCell (p := ⟨g, j, none⟩) (fun _ => rfl) _
            have gb2 : b0 + 2 ≠ g := by omega
            have hBt1 := HBt.out.keeps hk1 gb2
            have hTx1 := HTx.out.keeps hk1 (fun i hi => (HG.out i hi).1)
            have hT1 := HTc.out.keeps hk1 (fun i hi => (HG.out i hi).1)
            have hs1 : W1.heap.size = wr.heap.size := by rw [← hW1]; simp
            have HR2 := Lib.hid HR1
            have HB1 := Lib.hid hB1
            have HK1 := Lib.hid hk1
            have HBt1 := Lib.hid hBt1
            have HTx1 := Lib.hid hTx1
            have HT1 := Lib.hid hT1
            have HS1 := Lib.hid hs1
            have HW1e := Lib.hid hW1
            have hg0 : b0 ≠ g := by omega
            have q0 := hk1.cell m0 (p := ⟨b0, 0, none⟩) hg0
            have q1 := hk1.cell n0 (p := ⟨p, 0, none⟩) hpg
            have r0 := hk1.cell e0 hgxg
            have r1 := hk1.cell e1 hgxg
            have r2 := hk1.cell e2 hgxg
            have r3 := hk1.cell e3 hgxg
            have v0 := hBt1.cell (i := 0) rfl
            have v2 := hBt1.cell (i := 2) rfl
            rw [HJ.out] at v2
            rw [HC0.out] at v0
            have hgx1 : gx < W1.heap.size := by rw [hs1]; exact hgxw
            have hbt1_lt := hBt1.lt
            have hp1 : p < W1.heap.size := by omega
            have hb1 : b0 < W1.heap.size := by omega
            clear HR1 hA hB1 hk1 hBt1 hTx1 hT1 hs1 hW1
            have hQ : Hid (∀ W, Below W1.heap.size W1 W → (W.cell? ⟨b0, 0, none⟩ = some (.pointer (some ⟨p, 0, none⟩)) ∧ W.cell? ⟨p, 0, none⟩ = some (.slice (some ⟨gx, off, none⟩) σ.length c) ∧ W.cell? ⟨b0 + 1 + 1, 2, none⟩ = some (.int .i64 (j : Int)) ∧ W.cell? ⟨gx, off + j * 4, none⟩ = some (.int .i64 x.kind) ∧ W.cell? ⟨gx, off + j * 4 + 1, none⟩ = some (.string x.name) ∧ W.cell? ⟨gx, off + j * 4 + 2, none⟩ = some (.int .i64 x.var) ∧ W.cell? ⟨gx, off + j * 4 + 3, none⟩ = some (.slice A4 x.args.length c4))) := fun W hb =>
              ⟨(hb.cell (block_lt_of_cell q0)).trans q0, (hb.cell (block_lt_of_cell q1)).trans q1, (hb.cell (block_lt_of_cell v2)).trans v2, (hb.cell (block_lt_of_cell r0)).trans r0, (hb.cell (block_lt_of_cell r1)).trans r1, (hb.cell (block_lt_of_cell r2)).trans r2, (hb.cell (block_lt_of_cell r3)).trans r3⟩
            go_wp2_with fail
            rw [HW1e.out]
            go_upto_region 5 with fail
            go_cut [9] (fun s9 wc => s9 = .pointer (some ⟨W1.heap.size, 0, none⟩) ∧ Blk wc W1.heap.size 24 [.int .i64 x.kind, .string x.name, .int .i64 x.var, .slice A4 x.args.length c4] ∧ Below W1.heap.size W1 wc)
            case first =>
              go_region_held3 (fun W => W.cell? ⟨b0, 0, none⟩ = some (.pointer (some ⟨p, 0, none⟩)) ∧ W.cell? ⟨p, 0, none⟩ = some (.slice (some ⟨gx, off, none⟩) σ.length c) ∧ W.cell? ⟨b0 + 1 + 1, 2, none⟩ = some (.int .i64 (j : Int)) ∧ W.cell? ⟨gx, off + j * 4, none⟩ = some (.int .i64 x.kind) ∧ W.cell? ⟨gx, off + j * 4 + 1, none⟩ = some (.string x.name) ∧ W.cell? ⟨gx, off + j * 4 + 2, none⟩ = some (.int .i64 x.var) ∧ W.cell? ⟨gx, off + j * 4 + 3, none⟩ = some (.slice A4 x.args.length c4))
                (exact hQ.out _ (by repeat (first | assumption | exact Below.refl _ _ | refine Below.drewN ?_ _ | refine Below.drew ?_ | refine Below.setCell ?_ (by first | exact Nat.le_refl _ | (simp; done) | (simp; omega)) _ | refine Below.alloc ?_ (by first | omega | (simp; done) | (simp; omega)) _)))
                (fail)
              go_wp2_with fail
              go_meet
              exact ⟨rfl, (Blk.new W1 _ [_, _, _, _]).drew, (by repeat (first | assumption | exact Below.refl _ _ | refine Below.drewN ?_ _ | refine Below.drew ?_ | refine Below.setCell ?_ (by first | exact Nat.le_refl _ | (simp; done) | (simp; omega)) _ | refine Below.alloc ?_ (by first | omega | (simp; done) | (simp; omega)) _))⟩
            case rest =>
              obtain ⟨rfl, hbx, hbw⟩ := hcut
              have w0 := hbx.cell (i := 0) rfl
              have w1 := hbx.cell (i := 1) rfl
              have w2 := hbx.cell (i := 2) rfl
              have w3 := hbx.cell (i := 3) rfl
              have hkc : Keeps (fun _ => False) W1 wc := Keeps.of_below hbw
              have hBt2 := HBt1.out.keeps hkc (fun h => h)
              have hT2 := HTx1.out.keeps hkc (fun _ _ h => h)
              have hB2 := HB1.out.keeps hkc (fun h => h)
              have y2 := hBt2.cell (i := 2) rfl
              rw [HJ.out] at y2
              have hsz := hkc.size
              have HKc := Lib.hid hkc
              have HB2 := Lib.hid hB2
              clear hbw hkc hB2 d0 d2 d3 m0 m1 m3 q0 q1 r0 r1 r2 r3 v0 v2 sb fb e0 e1 e2 e3 n0
              by_cases hst : x.kind = 0 ∧ x.var = (j : Int)
              · have HR3 := Lib.hid HR2.out
                rw [if_neg (fun h => h.elim (fun h => h hst.1) (fun h => h hst.2))] at HR3
                have hx0b : (x.kind != 0) = false := by rw [hst.1]; rfl
                have hxvb : (x.var != (j : Int)) = false := by rw [hst.2]; simp
                clear hst
                go_wp2_with fail
                go_ret
                simp only [Option.some.injEq, Prod.mk.injEq] at HR3
                refine ⟨?_, ?_, ?_⟩
                · rw [← HR3.out.1]; rfl
                · rw [← HR3.out.2]; exact HB2.out
                · exact (HKG.out.trans HK1.out (fun _ _ h => h)).trans HKc.out (fun _ _ h => h.elim)
              · have HR3 := Lib.hid HR2.out
                rw [if_pos (Decidable.not_and_iff_or_not.1 hst)] at HR3
                obtain ⟨hB4, hK4⟩ := four hBt2 (.int .i64 x.kind) (.string x.name) (.int .i64 x.var) (.slice A4 x.args.length c4)
                have hsplit : ((x.kind != 0) = false ∧ (x.var != (j : Int)) = true) ∨ (x.kind != 0) = true := by
                  rcases Classical.em (x.kind = 0) with hx0 | hx0
                  · exact .inl ⟨by rw [hx0]; rfl, by rw [bne_iff_ne]; exact fun e => hst ⟨hx0, e⟩⟩
                  · exact .inr (by rw [bne_iff_ne]; exact hx0)
                have hT4 := hT2.keeps hK4 (fun i hi h => by have := HS2.out i hi; omega)
                have hB5 := HB2.out.keeps hK4 (fun h => by omega)
                have HB4 := Lib.hid hB4
                have HK4 := Lib.hid hK4
                have HT4 := Lib.hid hT4
                have HB5 := Lib.hid hB5
                have z0 : wc.cell? ⟨b0 + 1 + 1, 0, none⟩ = _ := hBt2.cell (i := 0) rfl
                have z1 : wc.cell? ⟨b0 + 1 + 1, 1, none⟩ = _ := hBt2.cell (i := 1) rfl
                have z3 : wc.cell? ⟨b0 + 1 + 1, 3, none⟩ = _ := hBt2.cell (i := 3) rfl
                have z2 : wc.cell? ⟨b0 + 1 + 1, 2, none⟩ = _ := hBt2.cell (i := 2) rfl
                have f0 : wc.frozen? ⟨b0 + 1 + 1, 0, none⟩ = false := hBt2.free 0
                have f1 : wc.frozen? ⟨b0 + 1 + 1, 1, none⟩ = false := hBt2.free 1
                have f2 : wc.frozen? ⟨b0 + 1 + 1, 2, none⟩ = false := hBt2.free 2
                have f3 : wc.frozen? ⟨b0 + 1 + 1, 3, none⟩ = false := hBt2.free 3
                clear hB4 hK4 hst hT4 hB5 hBt2 hT2 hbx
                rcases hsplit with ⟨hx0b, hxvb⟩ | hx0b
                all_goals
                  go_wp2_with fail
                  go_roundg q
                  case measure => omega
                  case rel => exact ⟨x, _, s1.set j true, HB4.out, HT4.out, HVx.out, by rw [List.length_set]; exact HL1.out, HB5.out, (((HK.out.trans HK1.out (fun i _ h => .inl h)).trans HKc.out (fun _ _ h => h.elim)).trans HK4.out (fun i _ h => .inr h)), by omega, HR3.out⟩
      · rw [if_neg h0] at hw1
        have h0b : (cur.kind == 0) = false := by rw [beq_eq_false_iff_ne]; exact h0
        have HIq := Lib.hid (HIH.out q (by omega))
        obtain ⟨R, hR⟩ : ∃ R, occL (occP σ v q) cur.args s1 = R := ⟨_, rfl⟩
        rw [hR] at hw1
        have HR1 := Lib.hid hw1
        have HRe := Lib.hid hR
        have HVa : Hid (∀ a ∈ cur.args, VIn σ a) := fun a ha x hx => hvi x ((freeP_args h0).2 ⟨a, ha, hx⟩)
        have hb4 : b0 < wr.heap.size := by omega
        have HCf := Lib.hid (tyContainsFuncS cur.args _ G wr 50 #[.pointer (some ⟨b0, 0, none⟩), .pointer (some ⟨b0 + 1, 0, none⟩), .pointer (some ⟨b0 + 1 + 1 + 1, 0, none⟩)] (enters_of Tryd.func50 (by kernel_rfl) rfl)
          (fun n W' => ∃ st1 : List Bool, Keeps (· = g) wr W' ∧ Blk W' g 4 (bools st1) ∧ st1.length = s.length ∧ R = occL (occP σ v q) (cur.args.drop n) st1) (fun W' => ∃ st1 : List Bool, Keeps (· = g) wr W' ∧ Blk W' g 4 (bools st1) ∧ R = some (true, st1))
          ⟨s1, Keeps.refl _ _, HBg.out, hl1, by rw [List.drop_zero]; exact HRe.out.symm⟩
          (fun n W' ⟨st1, hk1, _⟩ => HTc.out.args.keeps hk1 (fun i hi => (HG.out i hi).1))
          (fun n hn W' ⟨st1, hk1, hbl1, hln1, hR1⟩ av hav => by
            rw [List.drop_eq_getElem_cons hn, occL] at hR1
            cases hcy : occP σ v q st1 cur.args[n] with
            | none =>
              rw [hcy] at hR1
              rw [hR1] at HR1
              exact absurd HR1.out (by simp)
            | some pr =>
              obtain ⟨bq, sq⟩ := pr
              have hkW : Keeps (fun i => i = g ∨ i = b0 + 2) W0 W' := HK.out.trans hk1 (fun i _ h => .inl h)
              have hW's := hkW.size
              have hW0s : b0 ≤ W0.heap.size := by have := HK0.out.size; have := HB0.out; omega
              have e7 := (H4.out.keeps hkW (fun h => by omega)).cell (i := 0) rfl
              refine (occ_clo σ v q HIq.out b0 (b0 + 1) (b0 + 3) _ G W' p g st1 cur.args[n] av bq sq ((H1.out.keeps hkW (fun h => by omega)).cell (i := 0) rfl) ((H2.out.keeps hkW (fun h => by omega)).cell (i := 0) rfl) (by rw [hln1]; exact e7)
                (HS.out.keeps hkW (fun i hi h => by have := (HG.out i hi).1; have := HS2.out i hi; omega)) (HP.out.keeps hkW (fun h => by omega)) hbl1 (fun i hi => ⟨(HG.out i hi).1, by have := HS2.out i hi; omega⟩) (by rw [hln1]; exact HLen.out) hav (HVa.out _ (List.getElem_mem hn)) hcy).mono ?_
              rintro e w3 ⟨rfl, hb3', hk3⟩
              rw [hcy] at hR1
              cases bq with
              | false => exact .inl ⟨rfl, sq, hk1.trans hk3 (fun _ _ h => h), hb3', by rw [occP_len σ v q _ _ _ _ hcy, hln1], hR1⟩
              | true => exact .inr ⟨rfl, sq, hk1.trans hk3 (fun _ _ h => h), hb3', hR1⟩))
        clear hw hw1 hTc hk hKg hvi hbt hbg h0 hR
        go_wp2_with fail
        refine HCf.out.mono ?_
        rintro e w2 (⟨rfl, st1, hk1, hbl1, hln1, hR1⟩ | ⟨rfl, st1, hk1, hbl1, hR1⟩)
        · rw [List.drop_length, occL] at hR1
          rw [hR1] at HR1
          simp only [Option.some.injEq, Prod.mk.injEq] at HR1
          have HB2 := Lib.hid hbl1
          have HKz := Lib.hid (HKG.out.trans hk1 (fun _ _ h => h))
          clear hbl1 hk1 hR1 hln1
          go_wp2_with fail
          go_ret
          exact ⟨by rw [← HR1.out.1]; rfl, by rw [← HR1.out.2]; exact HB2.out, HKz.out⟩
        · rw [hR1] at HR1
          simp only [Option.some.injEq, Prod.mk.injEq] at HR1
          have HB2 := Lib.hid hbl1
          have HKz := Lib.hid (HKG.out.trans hk1 (fun _ _ h => h))
          clear hbl1 hk1 hR1
          go_wp2_with fail
          go_ret
          exact ⟨by rw [← HR1.out.1]; rfl, by rw [← HR1.out.2]; exact HB2.out, HKz.out⟩
theorem occ_any (σ : List Ty) (hσ : SubIn σ) (v : Int) (k : Nat) : OccAt σ v k := by
  induction k using Nat.strongRecOn with
  | _ k ih => exact occ_step σ hσ v k ih
end Go.Proofs.YthchnabhbpdfgaaDoor
end
