/- slices.ContainsFunc at ints where the predicate writes memory; unify.cyclic. -/
import Derived.Test.YthchnabhbpdfgaaDoorUFree
namespace Go.Proofs.YthchnabhbpdfgaaDoor
open Go.RowKit Go.Shelf

/-- What a search with a predicate that writes answers: I k holds before the element k is asked, J behind a yes. -/
def Asked (n : Nat) (I : Nat → World → Prop) (J : World → Prop) (e : Ending) (w' : World) : Prop := (e = .returned (.bool false) ∧ I n w') ∨ (e = .returned (.bool true) ∧ J w')
def Asked1 (I : World → Prop) (J : World → Prop) (e : Ending) (w' : World) : Prop := (e = .returned (.bool false) ∧ I w') ∨ (e = .returned (.bool true) ∧ J w')
def Indexed (n : Nat) (I : Nat → World → Prop) (J : World → Prop) (e : Ending) (w' : World) : Prop := (e = .returned (.int .i64 (-1)) ∧ I n w') ∨ (∃ k : Nat, e = .returned (.int .i64 (k : Int)) ∧ J w')
set_option maxHeartbeats 400000 in
theorem intIndexFuncS (l : List Int) (v : Value) (F : Nat → Prop) (w : World) (m : FuncId) (cap : Array Value) (eg : Enters Tryd.prog m) (I : Nat → World → Prop) (J : World → Prop) (hI : I 0 w) (hv : ∀ k W, I k W → Sl W F dInt l v)
    (hc : ∀ k (h : k < l.length) W, I k W → Calls Tryd.prog m (#[.int .i64 l[k]] ++ cap) W (Asked1 (I (k + 1)) J)) :
    Calls Tryd.prog 27 #[v, .func (.func m) #[] cap] w (Indexed l.length I J) := by
  obtain ⟨A, c, rfl, hlc, hcm, _⟩ := (hv 0 w hI).form
  have hl : l.length ≤ 9223372036854775807 := by unfold maxLen at hcm; omega
  have HC := Lib.hid hc
  have HV := Lib.hid hv
  clear hc hv
  unfold Enters at eg
  go_enter Tryd.func27, Tryd.ntmps27
  go_wp2
  go_loopw [5, 8] (fun _ i wr => ∃ k : Nat, k ≤ l.length ∧ i = .int .i64 k ∧ Hid (I k wr)) (fun _ i _ => l.length - (intOf i).toNat)
  case atStart => exact ⟨0, Nat.zero_le _, rfl, hI⟩
  case round =>
    obtain ⟨k, hk, rfl, hik⟩ := hrel
    by_cases hlt : k < l.length
    · obtain ⟨g, off, hadr, hF, c0, _⟩ := dInt.get (HV.out k wr hik.out) hlt
      obtain rfl := hadr
      have HN := Lib.hid (HC.out k hlt wr hik.out)
      obtain ⟨y, hy⟩ : ∃ y, l[k] = y := ⟨_, rfl⟩
      rw [hy] at c0 HN
      have k0 : (0 : Int) ≤ (k : Int) := by omega
      have k1 : (k : Int) < (l.length : Int) := by omega
      clear hy
      go_wp2_with fail
      refine HN.out.mono ?_
      rintro e w1 (⟨rfl, hi1⟩ | ⟨rfl, hj1⟩)
      · have HI1 := Lib.hid hi1
        clear hi1
        go_wp2
        go_roundw
        case rel => exact ⟨k + 1, by omega, by go_num, HI1.out⟩
        case measure => simp [intOf]; omega
      · have HJ1 := Lib.hid hj1
        clear hj1
        go_wp2
        go_ret
        exact .inr ⟨k, rfl, HJ1.out⟩
    · obtain rfl : k = l.length := by omega
      have k1 : ¬ (l.length : Int) < (l.length : Int) := by omega
      go_wp2
      go_ret
      exact .inl ⟨rfl, hik.out⟩
set_option maxHeartbeats 400000 in
theorem intContainsFuncS (l : List Int) (v : Value) (F : Nat → Prop) (w : World) (m : FuncId) (cap : Array Value) (eg : Enters Tryd.prog m) (I : Nat → World → Prop) (J : World → Prop) (hI : I 0 w) (hv : ∀ k W, I k W → Sl W F dInt l v)
    (hc : ∀ k (h : k < l.length) W, I k W → Calls Tryd.prog m (#[.int .i64 l[k]] ++ cap) W (Asked1 (I (k + 1)) J)) :
    Calls Tryd.prog 16 #[v, .func (.func m) #[] cap] w (Asked l.length I J) := by
  have HN := Lib.hid (intIndexFuncS l v F w m cap eg I J hI hv hc)
  clear hc hv hI
  clear eg
  go_enter Tryd.func16, Tryd.ntmps16
  go_wp2_with fail
  refine HN.out.mono ?_
  rintro e w1 (⟨rfl, hi1⟩ | ⟨k, rfl, hj1⟩)
  · have HI1 := Lib.hid hi1
    clear hi1
    go_wp2
    go_ret
    exact .inl ⟨rfl, HI1.out⟩
  · have HJ1 := Lib.hid hj1
    have k0 : (0 : Int) ≤ (k : Int) := by omega
    clear hj1
    go_wp2
    go_ret
    exact .inr ⟨ret_bool (by simp), HJ1.out⟩

/-! ### cyclic, in plain words -/
def selfB (σ : List Ty) (v : Nat) : Bool := match σ[v]? with
  | none => false
  | some x => decide (x.kind = 0) && decide (x.var = (v : Int))
def freeAt (σ : List Ty) (v : Nat) : List Int := match σ[v]? with
  | none => []
  | some x => freeP x
def cycL (f : List Int → Nat → Option (Bool × List Int)) : List Int → List Int → Option (Bool × List Int)
  | [], st => some (false, st)
  | x :: r, st => match f st x.toNat with
    | none => none
    | some (true, st') => some (true, st')
    | some (false, st') => cycL f r st'
def cyc (σ : List Ty) : Nat → List Int → Nat → Option (Bool × List Int)
  | 0, _, _ => none
  | n + 1, st, v =>
    if 0 < st.getD v 0 ∨ selfB σ v = true then some (decide (st.getD v 0 = 1), st)
    else match cycL (cyc σ n) (freeAt σ v) (st.set v 1) with
      | none => none
      | some (true, st') => some (true, st')
      | some (false, st') => some (false, st'.set v 2)
theorem cycL_len {f : List Int → Nat → Option (Bool × List Int)} (hf : ∀ st v b st', f st v = some (b, st') → st'.length = st.length) : ∀ (l st : List Int) (b : Bool) (st' : List Int), cycL f l st = some (b, st') → st'.length = st.length
  | [], st, b, st', h => by simp only [cycL, Option.some.injEq, Prod.mk.injEq] at h; rw [h.2]
  | x :: r, st, b, st', h => by
    rw [cycL] at h
    split at h
    · cases h
    · rename_i s1 h1
      simp only [Option.some.injEq, Prod.mk.injEq] at h
      rw [← h.2]; exact hf _ _ _ _ h1
    · rename_i s1 h1
      rw [cycL_len hf r s1 b st' h]; exact hf _ _ _ _ h1
theorem cyc_len (σ : List Ty) : ∀ (n : Nat) (st : List Int) (v : Nat) (b : Bool) (st' : List Int), cyc σ n st v = some (b, st') → st'.length = st.length
  | 0, _, _, _, _, h => by cases h
  | n + 1, st, v, b, st', h => by
    rw [cyc] at h
    split at h
    · simp only [Option.some.injEq, Prod.mk.injEq] at h
      rw [h.2]
    · split at h
      · cases h
      · rename_i s1 h1
        simp only [Option.some.injEq, Prod.mk.injEq] at h
        rw [← h.2, cycL_len (cyc_len σ n) _ _ _ _ h1, List.length_set]
      · rename_i s1 h1
        simp only [Option.some.injEq, Prod.mk.injEq] at h
        rw [← h.2, List.length_set, cycL_len (cyc_len σ n) _ _ _ _ h1, List.length_set]

def intz (l : List Int) : List Value := l.map (Value.int .i64)
theorem intz_get {l : List Int} {i : Nat} (h : i < l.length) : (intz l)[i]? = some (.int .i64 (l.getD i 0)) := by
  simp [intz, List.getElem?_eq_getElem h]
theorem intz_set (l : List Int) (i : Nat) (x : Int) : (intz l).set i (.int .i64 x) = intz (l.set i x) := by simp [intz, List.map_set]

/-- A substitution whose types are small and have variables of the substitution alone. -/
structure SubOk (σ : List Ty) : Prop where
  small : ∀ x ∈ σ, nodes x ≤ 33554432
  free : ∀ x ∈ σ, ∀ v ∈ freeP x, 0 ≤ v ∧ v < (σ.length : Int)
/-- The variables of all types are variables of the substitution. -/
def SubIn (σ : List Ty) : Prop := ∀ x ∈ σ, ∀ v ∈ freeP x, 0 ≤ v ∧ v < (σ.length : Int)
def CycAt (σ : List Ty) (n : Nat) : Prop := ∀ (sv : Value) (G : Nat → Prop) (W : World) (g : Nat) (st : List Int) (v : Nat) (b : Bool) (st' : List Int), Sl W G tyD σ sv → Blk W g 3 (intz st) → ¬ G g → st.length = σ.length → v < σ.length → cyc σ n st v = some (b, st') →
  Calls Tryd.prog 25 #[sv, .slice (some ⟨g, 0, none⟩) st.length st.length, .int .i64 (v : Int)] W fun e w' => e = .returned (.bool b) ∧ Blk w' g 3 (intz st') ∧ Keeps (· = g) W w'

set_option maxHeartbeats 400000 in
/-- The closure that cyclic asks with. -/
theorem clo_cyc (σ : List Ty) (n : Nat) (ih : CycAt σ n) (b3 b4 : Nat) (sv : Value) (G : Nat → Prop) (W : World) (g : Nat) (st : List Int) (v : Nat) (b : Bool) (st' : List Int) (h3 : W.cell? ⟨b3, 0, none⟩ = some sv) (h4 : W.cell? ⟨b4, 0, none⟩ = some (.slice (some ⟨g, 0, none⟩) st.length st.length))
    (hS : Sl W G tyD σ sv) (hB : Blk W g 3 (intz st)) (hG : ¬ G g) (hlen : st.length = σ.length) (hv : v < σ.length) (hc : cyc σ n st v = some (b, st')) :
    Calls Tryd.prog 37 (#[.int .i64 (v : Int)] ++ #[.pointer (some ⟨b3, 0, none⟩), .pointer (some ⟨b4, 0, none⟩)]) W fun e w' => e = .returned (.bool b) ∧ Blk w' g 3 (intz st') ∧ Keeps (· = g) W w' := by
  have HC := Lib.hid (ih sv G W g st v b st' hS hB hG hlen hv hc)
  obtain ⟨A, c, rfl, _⟩ := hS.form
  change Calls Tryd.prog 37 #[.int .i64 (v : Int), .pointer (some ⟨b3, 0, none⟩), .pointer (some ⟨b4, 0, none⟩)] W _
  clear hS hB hG hlen hv hc ih
  go_enter Tryd.func37, Tryd.ntmps37
  go_wp2_with fail
  with_reducible refine HC.out.mono ?_
  rintro e w' ⟨rfl, h1, h2⟩
  have H1 := Lib.hid h1
  have H2 := Lib.hid h2
  clear h1 h2
  go_wp2
  go_ret
  exact ⟨rfl, H1.out, H2.out⟩

set_option maxRecDepth 100000 in
set_option maxHeartbeats 4000000 in
theorem cyc_step (σ : List Ty) (hσ : SubOk σ) (n : Nat) (ih : ∀ m, n = m + 1 → CycAt σ m) : CycAt σ n := by
  intro sv G W g st v b st' hS hB hG hlen hv hc
  cases n with
  | zero => cases hc
  | succ n =>
  obtain ⟨A, c, rfl, hlc, hcm, _⟩ := hS.form
  have hlm : σ.length ≤ 9223372036854775807 := by unfold maxLen at hcm; omega
  have hvs : v < st.length := by omega
  have b0 := hB.cell (intz_get hvs)
  have fb := hB.free v
  have hgl := hB.lt
  obtain ⟨g2, off, xv, hadr, hg2, e0, e1, e2, e3, hTx⟩ := tyD.get hS hv
  obtain rfl := hadr
  have hgn : g2 ≠ g := fun e => hG (e ▸ hg2)
  have hfree := hσ.free _ (List.getElem_mem hv)
  have hsm := hσ.small _ (List.getElem_mem hv)
  have hself : selfB σ v = (decide ((σ[v]).kind = 0) && decide ((σ[v]).var = (v : Int))) := by unfold selfB; rw [List.getElem?_eq_getElem hv]
  have hfr : freeAt σ v = freeP σ[v] := by unfold freeAt; rw [List.getElem?_eq_getElem hv]
  obtain ⟨x, hx⟩ : ∃ x, σ[v] = x := ⟨_, rfl⟩
  rw [hx] at e0 e1 e2 hTx hfree hsm hself hfr
  obtain ⟨A4, c4, rfl, _⟩ := hTx.form
  have hg2l := block_lt_of_cell e0
  have v0 : (0 : Int) ≤ (v : Int) := by omega
  have v1 : (v : Int) < (σ.length : Int) := by omega
  have v2 : (v : Int) < (st.length : Int) := by omega
  obtain ⟨s, hs⟩ : ∃ s, st.getD v 0 = s := ⟨_, rfl⟩
  rw [cyc, hs, hself, hfr] at hc
  rw [hs] at b0
  have HBk := Lib.hid hB
  have HSl := Lib.hid hS
  clear hs hself hfr hB
  by_cases hpos : 0 < s
  · rw [if_pos (.inl hpos)] at hc
    simp only [Option.some.injEq, Prod.mk.injEq] at hc
    have HC := Lib.hid hc
    clear hc hS hTx hfree hsm hx hσ ih
    go_enter Tryd.func25, Tryd.ntmps25
    by_cases h1 : s = 1
    · have h1b : (s == 1) = true := beq_iff_eq.2 h1
      clear h1
      go_wp2
      go_ret
      exact ⟨by rw [← HC.out.1]; exact ret_bool (by simpa using h1b), by rw [← HC.out.2]; exact (HBk.out.alloc _).alloc _, ((Keeps.refl _ _).alloc _).alloc _⟩
    · have h1b : (s == 1) = false := by rw [beq_eq_false_iff_ne]; exact h1
      clear h1
      go_wp2
      go_ret
      exact ⟨by rw [← HC.out.1]; exact ret_bool (by simpa using h1b), by rw [← HC.out.2]; exact (HBk.out.alloc _).alloc _, ((Keeps.refl _ _).alloc _).alloc _⟩
  · have hs1 : ¬ s = 1 := by omega
    have hs1b : (s == 1) = false := by rw [beq_eq_false_iff_ne]; exact hs1
    by_cases hse : x.kind = 0 ∧ x.var = (v : Int)
    · rw [if_pos (.inr (by rw [hse.1, hse.2]; simp))] at hc
      simp only [Option.some.injEq, Prod.mk.injEq] at hc
      have HC := Lib.hid hc
      have HS1 := Lib.hid hs1
      rw [hse.1] at e0
      rw [hse.2] at e2
      clear hc hS hTx hfree hsm hx hσ ih hse hs1
      go_enter Tryd.func25, Tryd.ntmps25
      go_wp2
      go_ret
      exact ⟨by rw [← HC.out.1]; exact ret_bool (by simp [HS1.out]), by rw [← HC.out.2]; exact (HBk.out.alloc _).alloc _, ((Keeps.refl _ _).alloc _).alloc _⟩
    · have hnp : ¬ (0 < s ∨ (decide (x.kind = 0) && decide (x.var = (v : Int))) = true) := by
        rintro (h | h)
        · exact hpos h
        · rw [Bool.and_eq_true, decide_eq_true_eq, decide_eq_true_eq] at h
          exact hse h
      rw [if_neg hnp] at hc
      have HC := Lib.hid hc
      have HIH := Lib.hid (ih n rfl)
      have HG := Lib.hid hG
      have HLen := Lib.hid hlen
      have HTx := Lib.hid hTx
      have HFree := Lib.hid hfree
      have HSm := Lib.hid hsm
      have HHt : Hid (∀ b, G b → b ≠ g) := fun b hb e => hG (e ▸ hb)
      clear hc hS hTx hfree hsm hx hσ ih hnp hG hlen
      have hpos2 : ¬ (0 : Int) < s := hpos
      have hsplit : ((x.kind == 0) = true ∧ (x.var == (v : Int)) = false) ∨ (x.kind == 0) = false := by
        rcases Classical.em (x.kind = 0) with hx0 | hx0
        · exact .inl ⟨by rw [hx0]; rfl, by rw [beq_eq_false_iff_ne]; exact fun e => hse ⟨hx0, e⟩⟩
        · exact .inr (by rw [beq_eq_false_iff_ne]; exact hx0)
      obtain ⟨b3, hb3⟩ : ∃ b3, W.heap.size = b3 := ⟨_, rfl⟩
      obtain ⟨W0, hW0⟩ : ∃ W0, ((W.setCell ⟨g, v, none⟩ (.int .i64 1)).alloc (.cells #[.slice (some ⟨g2, off, none⟩) σ.length c] 25)).alloc (.cells #[.slice (some ⟨g, 0, none⟩) st.length st.length] 33) = W0 := ⟨_, rfl⟩
      have hB1 : Blk W0 g 3 (intz (st.set v 1)) := by
        rw [← hW0, ← intz_set]; exact ((HBk.out.set_ v (.int .i64 1)).alloc _).alloc _
      have h3 : Blk W0 b3 25 [.slice (some ⟨g2, off, none⟩) σ.length c] := by
        have := (Blk.new (W.setCell ⟨g, v, none⟩ (.int .i64 1)) 25 [.slice (some ⟨g2, off, none⟩) σ.length c]).alloc (.cells #[.slice (some ⟨g, 0, none⟩) st.length st.length] 33)
        rw [← hW0]
        simpa [hb3] using this
      have h4 : Blk W0 (b3 + 1) 33 [.slice (some ⟨g, 0, none⟩) st.length st.length] := by
        have := Blk.new ((W.setCell ⟨g, v, none⟩ (.int .i64 1)).alloc (.cells #[.slice (some ⟨g2, off, none⟩) σ.length c] 25)) 33 [.slice (some ⟨g, 0, none⟩) st.length st.length]
        rw [hW0] at this
        simpa [hb3] using this
      have hk0 : Keeps (· = g) W W0 := by rw [← hW0]; exact (((Keeps.refl (· = g) W).setCell (p := ⟨g, v, none⟩) (fun _ => rfl) _).alloc _).alloc _
      have hg3 : g ≠ b3 := by omega
      have hg4 : g ≠ b3 + 1 := by omega
      have HB1 := Lib.hid hB1
      have H3 := Lib.hid h3
      have H4 := Lib.hid h4
      have HK0 := Lib.hid hk0
      have HW0 := Lib.hid hW0
      have HG34 : Hid (g ≠ b3 ∧ g ≠ b3 + 1) := ⟨hg3, hg4⟩
      have HS0 := Lib.hid (HSl.out.keeps hk0 (fun i hi => HHt.out i hi))
      have HFr := Lib.hid (free_any x W0 G _ (HTx.out.keeps hk0 (fun i hi => HHt.out i hi)) HSm.out)
      have HB3 := Lib.hid hb3
      clear hW0 hB1 h3 h4 hk0 hg3 hg4 hb3 hse
      obtain ⟨R, hR⟩ : ∃ R, cycL (cyc σ n) (freeP x) (st.set v 1) = R := ⟨_, rfl⟩
      rw [hR] at HC
      have HR := Lib.hid hR
      clear hR
      rcases hsplit with ⟨hx0b, hxvb⟩ | hx0b
      all_goals
        go_enter Tryd.func25, Tryd.ntmps25
        go_wp2_with fail
        rw [HW0.out, HB3.out]
        with_reducible refine HFr.out.mono ?_
        rintro e w1 ⟨u, rfl, hb1, hsu⟩
        have hgl0 := HB1.out.lt
        have hB1' := HB1.out.later hb1
        have HCf := Lib.hid (intContainsFuncS (freeP x) u (fun b => W0.heap.size ≤ b) w1 37 #[.pointer (some ⟨b3, 0, none⟩), .pointer (some ⟨b3 + 1, 0, none⟩)] (enters_of Tryd.func37 (by kernel_rfl) rfl)
          (fun k W' => ∃ st1 : List Int, Keeps (· = g) w1 W' ∧ Blk W' g 3 (intz st1) ∧ st1.length = st.length ∧ R = cycL (cyc σ n) ((freeP x).drop k) st1) (fun W' => ∃ st1 : List Int, Keeps (· = g) w1 W' ∧ Blk W' g 3 (intz st1) ∧ R = some (true, st1))
          ⟨st.set v 1, Keeps.refl _ _, hB1', by simp, by rw [List.drop_zero]; exact HR.out.symm⟩
          (fun k W' ⟨st1, hk1, _⟩ => hsu.keeps hk1 (fun i hi e => by omega))
          (fun k hk W' ⟨st1, hk1, hbl1, hln1, hR1⟩ => by
            obtain ⟨hy0, hy1⟩ := HFree.out _ (List.getElem_mem hk)
            obtain ⟨y, hy⟩ : ∃ y : Nat, (freeP x)[k] = (y : Int) := ⟨(freeP x)[k].toNat, by omega⟩
            rw [List.drop_eq_getElem_cons hk, cycL, hy, Int.toNat_natCast] at hR1
            rw [hy] at hy1 ⊢
            cases hcy : cyc σ n st1 y with
            | none =>
              rw [hcy] at hR1
              rw [hR1] at HC
              exact absurd HC.out (by simp)
            | some q =>
              obtain ⟨bq, sq⟩ := q
              have hkW := (Keeps.of_below (X := (· = g)) hb1).trans hk1 (fun _ _ h => h)
              refine (clo_cyc σ n HIH.out b3 (b3 + 1) _ G W' g st1 y bq sq (((H3.out.keeps hkW HG34.out.1.symm).cell (i := 0) rfl)) (by rw [hln1]; exact (H4.out.keeps hkW HG34.out.2.symm).cell (i := 0) rfl) (HS0.out.keeps hkW (fun i hi => HHt.out i hi)) hbl1 HG.out (by rw [hln1]; exact HLen.out) (by omega) hcy).mono ?_
              rintro e w3 ⟨rfl, hb3', hk3⟩
              rw [hcy] at hR1
              cases bq with
              | false => exact .inl ⟨rfl, sq, hk1.trans hk3 (fun _ _ h => h), hb3', by rw [cyc_len σ n _ _ _ _ hcy, hln1], hR1⟩
              | true => exact .inr ⟨rfl, sq, hk1.trans hk3 (fun _ _ h => h), hb3', hR1⟩))
        have h3' := (H3.out.later hb1).cell (i := 0) rfl
        have h4' := (H4.out.later hb1).cell (i := 0) rfl
        have HKw := Lib.hid (HK0.out.trans (Keeps.of_below (X := (· = g)) hb1) (fun _ _ h => h))
        have HL1 := Lib.hid hb1
        obtain ⟨A9, c9, rfl, _⟩ := hsu.form
        clear hsu hB1' hb1
        go_wp2_with fail
        refine HCf.out.mono ?_
        rintro e w2 (⟨rfl, st1, hk1, hbl1, hln1, hR1⟩ | ⟨rfl, st1, hk1, hbl1, hR1⟩)
        · rw [List.drop_length, cycL] at hR1
          rw [hR1] at HC
          have HC2 := Lib.hid HC.out
          simp only [Option.some.injEq, Prod.mk.injEq] at HC2
          have q4 := ((H4.out.later HL1.out).keeps hk1 HG34.out.2.symm).cell (i := 0) rfl
          have hv1 : v < st1.length := by omega
          have qv := hbl1.cell (intz_get hv1)
          have fv := hbl1.free v
          have hgl2 := hbl1.lt
          have HB2 := Lib.hid hbl1
          have HKz := Lib.hid (HKw.out.trans hk1 (fun _ _ h => h))
          clear hbl1 hk1 hR1 hln1
          go_wp2
          go_ret
          exact ⟨by rw [← HC2.out.1]; rfl, by rw [← HC2.out.2, ← intz_set]; exact HB2.out.set_ v _, HKz.out.setCell (p := ⟨g, v, none⟩) (fun _ => rfl) _⟩
        · rw [hR1] at HC
          have HC2 := Lib.hid HC.out
          simp only [Option.some.injEq, Prod.mk.injEq] at HC2
          have HB2 := Lib.hid hbl1
          have HKz := Lib.hid (HKw.out.trans hk1 (fun _ _ h => h))
          clear hbl1 hk1 hR1
          go_wp2
          go_ret
          exact ⟨by rw [← HC2.out.1]; rfl, by rw [← HC2.out.2]; exact HB2.out, HKz.out⟩
theorem cyc_any (σ : List Ty) (hσ : SubOk σ) : ∀ n, CycAt σ n
  | 0 => cyc_step σ hσ 0 fun _ h => by omega
  | n + 1 => cyc_step σ hσ (n + 1) fun m h => by
    obtain rfl : n = m := by omega
    exact cyc_any σ hσ n
end Go.Proofs.YthchnabhbpdfgaaDoor
