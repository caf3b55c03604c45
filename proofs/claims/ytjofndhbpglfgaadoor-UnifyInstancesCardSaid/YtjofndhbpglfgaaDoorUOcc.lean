/- slices.ContainsFunc at types where the predicate writes memory. -/
import Derived.Test.YtjofndhbpglfgaaDoorUSub
namespace Go.Proofs.YtjofndhbpglfgaaDoor
open Go.RowKit Go.Shelf

set_option maxHeartbeats 400000 in
theorem tyIndexFuncS (l : List Ty) (v : Value) (F : Nat → Prop) (w : World) (m : FuncId) (cap : Array Value) (eg : Enters Tryd.prog m) (I : Nat → World → Prop) (J : World → Prop) (hI : I 0 w) (hv : ∀ k W, I k W → Sl W F tyD l v)
    (hc : ∀ k (h : k < l.length) W, I k W → ∀ av, TyC W F l[k] av → Calls Tryd.prog m (#[tyV l[k] av] ++ cap) W (Asked1 (I (k + 1)) J)) :
    Calls Tryd.prog 73 #[v, .func (.func m) #[] cap] w (Indexed l.length I J) := by
  obtain ⟨A, c, rfl, hlc, hcm, _⟩ := (hv 0 w hI).form
  have hl : l.length ≤ 9223372036854775807 := by unfold maxLen at hcm; omega
  have HC := Lib.hid hc
  have HV := Lib.hid hv
  clear hc hv
  unfold Enters at eg
  go_enter Tryd.func73, Tryd.ntmps73
  go_wp2
  go_loopw [5, 8] (fun _ i wr => ∃ k : Nat, k ≤ l.length ∧ i = .int .i64 k ∧ Hid (I k wr)) (fun _ i _ => l.length - (intOf i).toNat)
  case atStart => exact ⟨0, Nat.zero_le _, rfl, hI⟩
  case round =>
    obtain ⟨k, hk, rfl, hik⟩ := hrel
    by_cases hlt : k < l.length
    · obtain ⟨g, off, av, hadr, hF, e0, e1, e2, e3, hT⟩ := tyD.get (HV.out k wr hik.out) hlt
      obtain rfl := hadr
      have HN := Lib.hid (HC.out k hlt wr hik.out av hT)
      obtain ⟨y, hy⟩ : ∃ y, l[k] = y := ⟨_, rfl⟩
      rw [hy] at e0 e1 e2 HN
      unfold tyV at HN
      have k0 : (0 : Int) ≤ (k : Int) := by omega
      have k1 : (k : Int) < (l.length : Int) := by omega
      clear hy hT
      go_wp2_with fail
      refine HN.out.mono ?_
      rintro e w1 (⟨rfl, hi1⟩ | ⟨rfl, hj1⟩)
      · have HI1 := Lib.hid hi1
        clear hi1
        go_wp2
        go_roundw
        case rel => exact ⟨k + 1, by omega, by go_num, HI1.out⟩
        case measure => simp [intOf]; omega
      · have HJ1 := Lib.hid hj1
        clear hj1
        go_wp2
        go_ret
        exact .inr ⟨k, rfl, HJ1.out⟩
    · obtain rfl : k = l.length := by omega
      have k1 : ¬ (l.length : Int) < (l.length : Int) := by omega
      go_wp2
      go_ret
      exact .inl ⟨rfl, hik.out⟩
set_option maxHeartbeats 400000 in
theorem tyContainsFuncS (l : List Ty) (v : Value) (F : Nat → Prop) (w : World) (m : FuncId) (cap : Array Value) (eg : Enters Tryd.prog m) (I : Nat → World → Prop) (J : World → Prop) (hI : I 0 w) (hv : ∀ k W, I k W → Sl W F tyD l v)
    (hc : ∀ k (h : k < l.length) W, I k W → ∀ av, TyC W F l[k] av → Calls Tryd.prog m (#[tyV l[k] av] ++ cap) W (Asked1 (I (k + 1)) J)) :
    Calls Tryd.prog 51 #[v, .func (.func m) #[] cap] w (Asked l.length I J) := by
  have HN := Lib.hid (tyIndexFuncS l v F w m cap eg I J hI hv hc)
  clear hc hv hI
  clear eg
  go_enter Tryd.func51, Tryd.ntmps51
  go_wp2_with fail
  refine HN.out.mono ?_
  rintro e w1 (⟨rfl, hi1⟩ | ⟨k, rfl, hj1⟩)
  · have HI1 := Lib.hid hi1
    clear hi1
    go_wp2
    go_ret
    exact .inl ⟨rfl, HI1.out⟩
  · have HJ1 := Lib.hid hj1
    have k0 : (0 : Int) ≤ (k : Int) := by omega
    clear hj1
    go_wp2
    go_ret
    exact .inr ⟨ret_bool (by simp), HJ1.out⟩

/-! ### occurs, in plain words -/
def occL (f : List Bool → Ty → Option (Bool × List Bool)) : List Ty → List Bool → Option (Bool × List Bool)
  | [], s => some (false, s)
  | a :: r, s => match f s a with
    | none => none
    | some (true, s') => some (true, s')
    | some (false, s') => occL f r s'
def occP (σ : List Ty) (v : Int) : Nat → List Bool → Ty → Option (Bool × List Bool)
  | 0, _, _ => none
  | k + 1, s, t =>
    if t.kind = 0 then
      if t.var = v ∨ s.getD t.var.toNat false = true then some (decide (t.var = v), s)
      else match σ[t.var.toNat]? with
        | none => none
        | some x => if x.kind ≠ 0 ∨ x.var ≠ t.var then occP σ v k (s.set t.var.toNat true) x else some (false, s.set t.var.toNat true)
    else occL (occP σ v k) t.args s

def bools (l : List Bool) : List Value := l.map Value.bool
theorem bools_get {l : List Bool} {i : Nat} (h : i < l.length) : (bools l)[i]? = some (.bool (l.getD i false)) := by
  simp [bools, List.getElem?_eq_getElem h]
theorem bools_set (l : List Bool) (i : Nat) (x : Bool) : (bools l).set i (.bool x) = bools (l.set i x) := by simp [bools, List.map_set]
def OccAt (σ : List Ty) (v : Int) (k : Nat) : Prop := ∀ (sv : Value) (G : Nat → Prop) (W : World) (p g : Nat) (s : List Bool) (t : Ty) (av : Value) (b : Bool) (s' : List Bool), Sl W G tyD σ sv → Blk W p 115 [sv] → Blk W g 4 (bools s) → (∀ b, G b → b ≠ g ∧ b < W.heap.size) →
  s.length = σ.length → TyC W G t av → VIn σ t → occP σ v k s t = some (b, s') →
  Calls Tryd.prog 88 #[.pointer (some ⟨p, 0, none⟩), .int .i64 v, tyV t av, .slice (some ⟨g, 0, none⟩) s.length s.length] W fun e w' => e = .returned (.bool b) ∧ Blk w' g 4 (bools s') ∧ Keeps (· = g) W w'
theorem occL_len {f : List Bool → Ty → Option (Bool × List Bool)} (hf : ∀ s t b s', f s t = some (b, s') → s'.length = s.length) : ∀ (l : List Ty) (s : List Bool) (b : Bool) (s' : List Bool), occL f l s = some (b, s') → s'.length = s.length
  | [], s, b, s', h => by simp only [occL, Option.some.injEq, Prod.mk.injEq] at h; rw [h.2]
  | x :: r, s, b, s', h => by
    rw [occL] at h
    split at h
    · cases h
    · rename_i s1 h1
      simp only [Option.some.injEq, Prod.mk.injEq] at h
      rw [← h.2]; exact hf _ _ _ _ h1
    · rename_i s1 h1
      rw [occL_len hf r s1 b s' h]; exact hf _ _ _ _ h1
theorem occP_len (σ : List Ty) (v : Int) : ∀ (k : Nat) (s : List Bool) (t : Ty) (b : Bool) (s' : List Bool), occP σ v k s t = some (b, s') → s'.length = s.length
  | 0, _, _, _, _, h => by cases h
  | k + 1, s, t, b, s', h => by
    rw [occP] at h
    split at h
    · split at h
      · simp only [Option.some.injEq, Prod.mk.injEq] at h
        rw [h.2]
      · split at h
        · cases h
        · split at h
          · rw [occP_len σ v k _ _ _ _ h, List.length_set]
          · simp only [Option.some.injEq, Prod.mk.injEq] at h
            rw [← h.2, List.length_set]
    · exact occL_len (occP_len σ v k) _ _ _ _ h
set_option maxHeartbeats 400000 in
/-- The closure that occurs asks with. -/
theorem occ_clo (σ : List Ty) (v : Int) (k : Nat) (ih : OccAt σ v k) (b4 b5 b7 : Nat) (sv : Value) (G : Nat → Prop) (W : World) (p g : Nat) (s : List Bool) (t : Ty) (av : Value) (b : Bool) (s' : List Bool)
    (h4 : W.cell? ⟨b4, 0, none⟩ = some (.pointer (some ⟨p, 0, none⟩))) (h5 : W.cell? ⟨b5, 0, none⟩ = some (.int .i64 v)) (h7 : W.cell? ⟨b7, 0, none⟩ = some (.slice (some ⟨g, 0, none⟩) s.length s.length))
    (hS : Sl W G tyD σ sv) (hP : Blk W p 115 [sv]) (hB : Blk W g 4 (bools s)) (hG : ∀ b, G b → b ≠ g ∧ b < W.heap.size) (hlen : s.length = σ.length) (hT : TyC W G t av) (hV : VIn σ t) (hc : occP σ v k s t = some (b, s')) :
    Calls Tryd.prog 92 (#[tyV t av] ++ #[.pointer (some ⟨b4, 0, none⟩), .pointer (some ⟨b5, 0, none⟩), .pointer (some ⟨b7, 0, none⟩)]) W fun e w' => e = .returned (.bool b) ∧ Blk w' g 4 (bools s') ∧ Keeps (· = g) W w' := by
  obtain ⟨A, c, rfl, _⟩ := hT.form
  have l4 := block_lt_of_cell h4
  have l5 := block_lt_of_cell h5
  have l7 := block_lt_of_cell h7
  obtain ⟨W1, hW1⟩ : ∃ W1, W.alloc (.cells #[.int .i64 t.kind, .string t.name, .int .i64 t.var, .slice A t.args.length c] 45) = W1 := ⟨_, rfl⟩
  have hk : Keeps (fun _ => False) W W1 := by rw [← hW1]; exact (Keeps.refl _ _).alloc _
  have HC := Lib.hid (ih sv G W1 p g s t _ b s' (hS.keeps hk (fun _ _ h => h)) (hP.keeps hk (fun h => h)) (hB.keeps hk (fun h => h)) (fun i hi => ⟨(hG i hi).1, by have := (hG i hi).2; have := hk.size; omega⟩) hlen (hT.keeps hk (fun _ _ h => h)) hV hc)
  unfold tyV at HC
  have HW1 := Lib.hid hW1
  have HK := Lib.hid hk
  change Calls Tryd.prog 92 #[tyV t (.slice A t.args.length c), .pointer (some ⟨b4, 0, none⟩), .pointer (some ⟨b5, 0, none⟩), .pointer (some ⟨b7, 0, none⟩)] W _
  unfold tyV
  clear hS hP hB hG hlen hT hV hc ih hW1 hk
  go_enter Tryd.func92, Tryd.ntmps92
  go_wp2_with fail
  rw [HW1.out]
  with_reducible refine HC.out.mono ?_
  rintro e w' ⟨rfl, h1, h2⟩
  have H1 := Lib.hid h1
  have H2 := Lib.hid h2
  clear h1 h2
  go_wp2_with fail
  go_ret
  exact ⟨rfl, H1.out, (HK.out.mono (Y := (· = g)) (fun _ _ h => h.elim)).trans H2.out (fun _ _ h => h)⟩
end Go.Proofs.YtjofndhbpglfgaaDoor
