/- unify: the meter's size. -/
import Derived.Test.YthchnabhbpdfgaaDoorUCyc
import Derived.Test.YthchnabhbpdfgaaDoorUWalk
import Derived.Deep.RegionHeld3
import Derived.RegionTactic
import Derived.Outline
namespace Go.Proofs.YthchnabhbpdfgaaDoor
open Go.RowKit Go.Shelf

def sizeL (f : List Int → Ty → Option (Int × List Int)) : List Ty → Int → List Int → Option (Int × List Int)
  | [], n, of => some (n, of)
  | a :: r, n, of => match f of a with
    | none => none
    | some (m, of') => sizeL f r (min (n + m) 4097) of'
def sizeP (σ : List Ty) : Nat → List Int → Ty → Option (Int × List Int)
  | 0, _, _ => none
  | k + 1, of, t =>
    if t.kind = 0 then
      match σ[t.var.toNat]? with
      | none => none
      | some x =>
        if x.kind = 0 ∧ x.var = t.var then some (1, of)
        else if of.getD t.var.toNat 0 = 0 then
          match sizeP σ k of x with
          | none => none
          | some (r, of') => some (r, of'.set t.var.toNat r)
        else some (of.getD t.var.toNat 0, of)
    else sizeL (sizeP σ k) t.args 1 of
/-- The numbers are within the limit. -/
def Lim4 (of : List Int) : Prop := ∀ x ∈ of, 0 ≤ x ∧ x ≤ 4097
theorem Lim4.get {of : List Int} (h : Lim4 of) (i : Nat) : 0 ≤ of.getD i 0 ∧ of.getD i 0 ≤ 4097 := by
  rw [List.getD_eq_getElem?_getD]
  cases hi : of[i]? with
  | none => simp
  | some x => exact h x (List.mem_of_getElem? hi)
theorem Lim4.set {of : List Int} (h : Lim4 of) (i : Nat) {r : Int} (h0 : 0 ≤ r) (h1 : r ≤ 4097) : Lim4 (of.set i r) := fun x hx => by
  rcases List.mem_or_eq_of_mem_set hx with hx | hx
  · exact h x hx
  · rw [hx]; exact ⟨h0, h1⟩
def SizeOk (of : List Int) (r : Int) (of' : List Int) : Prop := 1 ≤ r ∧ r ≤ 4097 ∧ Lim4 of' ∧ of'.length = of.length
theorem sizeL_ok {f : List Int → Ty → Option (Int × List Int)} (hf : ∀ of t r of', Lim4 of → f of t = some (r, of') → SizeOk of r of') : ∀ (l : List Ty) (n : Int) (of : List Int) (r : Int) (of' : List Int), 1 ≤ n → n ≤ 4097 → Lim4 of → sizeL f l n of = some (r, of') → SizeOk of r of'
  | [], n, of, r, of', h0, h1, h2, h => by
    simp only [sizeL, Option.some.injEq, Prod.mk.injEq] at h
    obtain ⟨rfl, rfl⟩ := h
    exact ⟨h0, h1, h2, rfl⟩
  | a :: l, n, of, r, of', h0, h1, h2, h => by
    rw [sizeL] at h
    split at h
    · cases h
    · rename_i m o1 hm
      obtain ⟨k1, k2, k3, k4⟩ := hf _ _ _ _ h2 hm
      obtain ⟨j1, j2, j3, j4⟩ := sizeL_ok hf l _ _ _ _ (by omega) (by omega) k3 h
      exact ⟨j1, j2, j3, j4.trans k4⟩
theorem sizeP_ok (σ : List Ty) : ∀ (k : Nat) (of : List Int) (t : Ty) (r : Int) (of' : List Int), Lim4 of → sizeP σ k of t = some (r, of') → SizeOk of r of'
  | 0, _, _, _, _, _, h => by cases h
  | k + 1, of, t, r, of', h0, h => by
    rw [sizeP] at h
    split at h
    · split at h
      · cases h
      · split at h
        · simp only [Option.some.injEq, Prod.mk.injEq] at h
          obtain ⟨rfl, rfl⟩ := h
          exact ⟨by omega, by omega, h0, rfl⟩
        · split at h
          · split at h
            · cases h
            · rename_i q o1 hq
              simp only [Option.some.injEq, Prod.mk.injEq] at h
              obtain ⟨rfl, rfl⟩ := h
              obtain ⟨k1, k2, k3, k4⟩ := sizeP_ok σ k _ _ _ _ h0 hq
              exact ⟨k1, k2, k3.set _ (by omega) k2, by rw [List.length_set]; exact k4⟩
          · rename_i hz
            simp only [Option.some.injEq, Prod.mk.injEq] at h
            obtain ⟨rfl, rfl⟩ := h
            have := h0.get t.var.toNat
            exact ⟨by omega, this.2, h0, rfl⟩
    · exact sizeL_ok (fun of t r of' => sizeP_ok σ k of t r of') _ _ _ _ _ (by omega) (by omega) h0 h

theorem foldl_mem : ∀ (l acc : List Int) (v : Int), v ∈ l.foldl addV acc ↔ v ∈ acc ∨ v ∈ l
  | [], acc, v => by simp
  | x :: l, acc, v => by
    rw [List.foldl_cons, foldl_mem l]
    unfold addV
    split
    · rename_i h
      have hx : x ∈ acc := by
        unfold intIn at h
        obtain ⟨y, hy, e⟩ := List.any_eq_true.1 h
        rw [of_decide_eq_true e]; exact hy
      constructor
      · rintro (h1 | h1)
        · exact .inl h1
        · exact .inr (by simp [h1])
      · rintro (h1 | h1)
        · exact .inl h1
        · rcases List.mem_cons.1 h1 with rfl | h1
          · exact .inl hx
          · exact .inr h1
    · simp [or_assoc]
theorem frees_mem : ∀ (l : List Ty) (acc : List Int) (v : Int), v ∈ frees l acc ↔ v ∈ acc ∨ ∃ a ∈ l, v ∈ freeP a
  | [], acc, v => by rw [frees]; simp
  | a :: r, acc, v => by
    rw [frees, frees_mem r, foldl_mem]
    simp [or_assoc]
theorem freeP_args {t : Ty} (h : t.kind ≠ 0) {v : Int} : v ∈ freeP t ↔ ∃ a ∈ t.args, v ∈ freeP a := by
  cases t with
  | mk k n x l =>
    rw [freeP, if_neg (show ¬ k = 0 from h), frees_mem]
    simp [Ty.args]
theorem freeP_var {t : Ty} (h : t.kind = 0) : freeP t = [t.var] := by
  cases t with
  | mk k n x l => rw [freeP, if_pos (show k = 0 from h)]; rfl
def VIn (σ : List Ty) (t : Ty) : Prop := ∀ v ∈ freeP t, 0 ≤ v ∧ v < (σ.length : Int)

def SizeAt (σ : List Ty) (k : Nat) : Prop := ∀ (sv : Value) (G : Nat → Prop) (W : World) (p g : Nat) (of : List Int) (t : Ty) (av : Value) (r : Int) (of' : List Int), Sl W G tyD σ sv → Blk W p 69 [sv, .slice (some ⟨g, 0, none⟩) of.length of.length] → Blk W g 3 (intz of) → (∀ b, G b → b ≠ g) →
  of.length = σ.length → TyC W G t av → VIn σ t → Lim4 of → sizeP σ k of t = some (r, of') →
  Calls Tryd.prog 38 #[.pointer (some ⟨p, 0, none⟩), tyV t av] W fun e w' => e = .returned (.int .i64 r) ∧ Blk w' g 3 (intz of') ∧ Keeps (· = g) W w'

set_option maxRecDepth 100000 in
set_option maxHeartbeats 4000000 in
theorem size_step (σ : List Ty) (hσ : SubIn σ) (k : Nat) (ih : ∀ m, k = m + 1 → SizeAt σ m) : SizeAt σ k := by
  intro sv G W p g of t av r of' hS hP hB hG hlen hT hV hL hr
  cases k with
  | zero => cases hr
  | succ k =>
  have HIH := Lib.hid (ih k rfl)
  clear ih
  obtain ⟨A, c, rfl, hlc, hcm, _⟩ := hS.form
  obtain ⟨A2, c2, rfl, hlc2, hcm2, _⟩ := hT.form
  have hlm : σ.length ≤ 9223372036854775807 := by unfold maxLen at hcm; omega
  have hlm2 : t.args.length ≤ 9223372036854775807 := by unfold maxLen at hcm2; omega
  have hpg : p ≠ g := fun e => by
    subst e
    unfold Blk at hP hB
    rw [hP] at hB
    simp only [Option.some.injEq, Obj.cells.injEq] at hB
    exact absurd hB.2.1 (by decide)
  have hpl := hP.lt
  have hgl := hB.lt
  rw [sizeP] at hr
  obtain ⟨tb, htb⟩ : ∃ tb, W.heap.size = tb := ⟨_, rfl⟩
  unfold tyV
  by_cases h0 : t.kind = 0
  · rw [if_pos h0] at hr
    obtain ⟨hv0, hv1⟩ := hV t.var (by rw [freeP_var h0]; simp)
    obtain ⟨v, hv⟩ : ∃ v : Nat, t.var = (v : Int) := ⟨t.var.toNat, by omega⟩
    have hvl : v < σ.length := by omega
    rw [hv, Int.toNat_natCast, List.getElem?_eq_getElem hvl] at hr
    dsimp only at hr
    obtain ⟨g2, off, xv, hadr, hg2, e0, e1, e2, e3, hTx⟩ := tyD.get hS hvl
    obtain rfl := hadr
    have hfx := hσ _ (List.getElem_mem hvl)
    obtain ⟨x, hx⟩ : ∃ x, σ[v] = x := ⟨_, rfl⟩
    rw [hx] at e0 e1 e2 hTx hr hfx
    obtain ⟨A4, c4, rfl, _⟩ := hTx.form
    have hg2l := block_lt_of_cell e0
    have hg2g := hG g2 hg2
    have p0 := hP.cell (i := 0) rfl
    have p1 := hP.cell (i := 1) rfl
    have v0 : (0 : Int) ≤ (v : Int) := by omega
    have v1 : (v : Int) < (σ.length : Int) := by omega
    have v2 : (v : Int) < (of.length : Int) := by omega
    have hvo : v < of.length := by omega
    have q0 := hB.cell (intz_get hvo)
    have fq := hB.free v
    obtain ⟨z, hz⟩ : ∃ z, of.getD v 0 = z := ⟨_, rfl⟩
    rw [hz] at q0 hr
    have HB := Lib.hid hB
    have HP := Lib.hid hP
    have HS := Lib.hid hS
    have HTx := Lib.hid hTx
    have HG := Lib.hid hG
    have HFx := Lib.hid hfx
    have HL := Lib.hid hL
    have HLen := Lib.hid hlen
    rw [h0, hv]
    clear hB hP hS hTx hG hfx hL hT hV hx hz htb h0 hv hσ hlen
    by_cases hse : x.kind = 0 ∧ x.var = (v : Int)
    · rw [if_pos hse] at hr
      simp only [Option.some.injEq, Prod.mk.injEq] at hr
      have HR := Lib.hid hr
      rw [hse.1] at e0
      rw [hse.2] at e2
      clear hr hse
      go_enter Tryd.func38, Tryd.ntmps38
      go_wp2_with fail
      go_region
      go_wp2_with fail
      go_ret
      exact ⟨by rw [← HR.out.1]; rfl, by rw [← HR.out.2]; exact ((HB.out.alloc _).alloc _).drew, (((Keeps.refl _ _).alloc _).alloc _).drew⟩
    · rw [if_neg hse] at hr
      have hsplit : ((x.kind == 0) = true ∧ (x.var == (v : Int)) = false) ∨ (x.kind == 0) = false := by
        rcases Classical.em (x.kind = 0) with hx0 | hx0
        · exact .inl ⟨by rw [hx0]; rfl, by rw [beq_eq_false_iff_ne]; exact fun e => hse ⟨hx0, e⟩⟩
        · exact .inr (by rw [beq_eq_false_iff_ne]; exact hx0)
      clear hse
      by_cases hz : z = 0
      · subst hz
        rw [if_pos rfl] at hr
        cases hq : sizeP σ k of x with
        | none => rw [hq] at hr; cases hr
        | some pr =>
          obtain ⟨q, o1⟩ := pr
          rw [hq] at hr
          simp only [Option.some.injEq, Prod.mk.injEq] at hr
          have hok := sizeP_ok σ k _ _ _ _ HL.out hq
          have HR := Lib.hid hr
          obtain ⟨hk1, hk2, hk3, hk4⟩ := hok
          clear hr
          have hWg : W.heap.size ≠ g := by omega
          have hWg1 : W.heap.size + 1 ≠ g := by omega
          obtain ⟨W0, hW0⟩ : ∃ W0, (W.alloc (.cells #[.int .i64 0, .string t.name, .int .i64 v, .slice A2 t.args.length c2] 24)).alloc (.cells #[.int .i64 x.kind, .string x.name, .int .i64 x.var, .slice A4 x.args.length c4] 24) = W0 := ⟨_, rfl⟩
          have hk0 : Keeps (fun _ => False) W W0 := by rw [← hW0]; exact ((Keeps.refl _ _).alloc _).alloc _
          have hb0 : Blk W0 W.heap.size 24 [.int .i64 0, .string t.name, .int .i64 v, .slice A2 t.args.length c2] := by
            rw [← hW0]; exact (Blk.new W _ [_, _, _, _]).alloc _
          have hb1 : Blk W0 (W.heap.size + 1) 24 [.int .i64 x.kind, .string x.name, .int .i64 x.var, .slice A4 x.args.length c4] := by
            have := Blk.new (W.alloc (.cells #[.int .i64 0, .string t.name, .int .i64 v, .slice A2 t.args.length c2] 24)) 24 [.int .i64 x.kind, .string x.name, .int .i64 x.var, .slice A4 x.args.length c4]
            rw [hW0] at this
            simpa using this
          have HC := Lib.hid (fun (X : World) (hx0 : Keeps (fun _ => False) W0 X) => have hx := hk0.trans hx0 (fun _ _ h => h); (HIH.out _ G X p g of x _ q o1 (HS.out.keeps hx (fun _ _ h => h)) (HP.out.keeps hx (fun h => h)) (HB.out.keeps hx (fun h => h)) HG.out HLen.out (HTx.out.keeps hx (fun _ _ h => h)) HFx.out HL.out hq).mono
            (R' := fun e w' => e = .returned (.int .i64 q) ∧ Blk w' g 3 (intz o1) ∧ Keeps (· = g) W w' ∧ w'.cell? ⟨p, 1, none⟩ = some (.slice (some ⟨g, 0, none⟩) of.length of.length) ∧ w'.cell? ⟨W.heap.size, 2, none⟩ = some (.int .i64 v) ∧ w'.cell? ⟨W.heap.size + 1, 0, none⟩ = some (.int .i64 x.kind) ∧ w'.cell? ⟨W.heap.size + 1, 1, none⟩ = some (.string x.name) ∧ w'.cell? ⟨W.heap.size + 1, 2, none⟩ = some (.int .i64 x.var) ∧ w'.cell? ⟨W.heap.size + 1, 3, none⟩ = some (.slice A4 x.args.length c4))
            fun e w' ⟨he, hb, hk⟩ => ⟨he, hb, (hx.mono (Y := (· = g)) (fun _ _ h => h.elim)).trans hk (fun _ _ h => h), ((HP.out.keeps hx (fun h => h)).keeps hk hpg).cell (i := 1) rfl, ((hb0.keeps hx0 (fun h => h)).keeps hk hWg).cell (i := 2) rfl, ((hb1.keeps hx0 (fun h => h)).keeps hk hWg1).cell (i := 0) rfl, ((hb1.keeps hx0 (fun h => h)).keeps hk hWg1).cell (i := 1) rfl, ((hb1.keeps hx0 (fun h => h)).keeps hk hWg1).cell (i := 2) rfl, ((hb1.keeps hx0 (fun h => h)).keeps hk hWg1).cell (i := 3) rfl⟩)
          clear hk0 hb0 hb1
          subst hW0
          unfold tyV at HC
          rcases hsplit with ⟨hx0b, hxvb⟩ | hx0b
          all_goals
            go_enter Tryd.func38, Tryd.ntmps38
            go_wp2_with fail
            go_region
            go_wp2_with fail
            go_quiet (fail)
            go_wp2_with fail
            go_region_held3 (fun w' => w'.cell? ⟨p, 1, none⟩ = some (.slice (some ⟨g, 0, none⟩) of.length of.length) ∧ w'.cell? ⟨W.heap.size, 2, none⟩ = some (.int .i64 v) ∧ w'.cell? ⟨W.heap.size + 1, 0, none⟩ = some (.int .i64 x.kind) ∧ w'.cell? ⟨W.heap.size + 1, 1, none⟩ = some (.string x.name) ∧ w'.cell? ⟨W.heap.size + 1, 2, none⟩ = some (.int .i64 x.var) ∧ w'.cell? ⟨W.heap.size + 1, 3, none⟩ = some (.slice A4 x.args.length c4))
              (first
                | exact ⟨s1, s2, s3, s4, s5, s6⟩
                | exact ⟨((Keeps.refl (· = g) w1).setCell (p := ⟨g, v, none⟩) (fun _ => rfl) _).cell (p := ⟨p, 1, none⟩) s1 hpg, ((Keeps.refl (· = g) w1).setCell (p := ⟨g, v, none⟩) (fun _ => rfl) _).cell (p := ⟨W.heap.size, 2, none⟩) s2 hWg, ((Keeps.refl (· = g) w1).setCell (p := ⟨g, v, none⟩) (fun _ => rfl) _).cell (p := ⟨W.heap.size + 1, 0, none⟩) s3 hWg1, ((Keeps.refl (· = g) w1).setCell (p := ⟨g, v, none⟩) (fun _ => rfl) _).cell (p := ⟨W.heap.size + 1, 1, none⟩) s4 hWg1, ((Keeps.refl (· = g) w1).setCell (p := ⟨g, v, none⟩) (fun _ => rfl) _).cell (p := ⟨W.heap.size + 1, 2, none⟩) s5 hWg1, ((Keeps.refl (· = g) w1).setCell (p := ⟨g, v, none⟩) (fun _ => rfl) _).cell (p := ⟨W.heap.size + 1, 3, none⟩) s6 hWg1⟩
                | go_keep)
              ((go_at_call 38; with_reducible refine (HC.out _ (by repeat (first | assumption | exact Keeps.refl _ _ | refine Keeps.drewN ?_ _ | refine Keeps.drew ?_))).mono ?_; rintro e w1 ⟨rfl, hB1, hk1, s1, s2, s3, s4, s5, s6⟩; have qv1 := hB1.cell (intz_get (show v < o1.length by omega)); have fq1 := hB1.free v; have hgl1 := hB1.lt))
            go_wp2_with fail
            go_quiet (fail)
            go_wp2_with fail
            go_ret
            exact ⟨by rw [← HR.out.1]; rfl, by rw [← HR.out.2, ← intz_set]; exact (hB1.set_ v _).drewN _, (hk1.setCell (p := ⟨g, v, none⟩) (fun _ => rfl) _).drewN _⟩
      · rw [if_neg hz] at hr
        simp only [Option.some.injEq, Prod.mk.injEq] at hr
        have HR := Lib.hid hr
        have hzb : (z == 0) = false := by rw [beq_eq_false_iff_ne]; exact hz
        clear hr hz
        rcases hsplit with ⟨hx0b, hxvb⟩ | hx0b
        all_goals
          go_enter Tryd.func38, Tryd.ntmps38
          go_wp2_with fail
          go_region
          go_wp2_with fail
          go_quiet (fail)
          go_wp2_with fail
          go_quiet (fail)
          go_wp2_with fail
          go_ret
          exact ⟨by rw [← HR.out.1]; rfl, by rw [← HR.out.2]; first | exact ((HB.out.alloc _).alloc _).drew | exact (((HB.out.alloc _).alloc _).drew).drewN _ | exact ((((HB.out.alloc _).alloc _).drew).drewN _).drewN _, by first | exact (((Keeps.refl _ _).alloc _).alloc _).drew | exact ((((Keeps.refl _ _).alloc _).alloc _).drew).drewN _ | exact (((((Keeps.refl _ _).alloc _).alloc _).drew).drewN _).drewN _⟩
  · rw [if_neg h0] at hr
    have hkb : (t.kind == 0) = false := by rw [beq_eq_false_iff_ne]; exact h0
    have HVA : Hid (∀ a ∈ t.args, VIn σ a) := fun a ha v hv => hV v ((freeP_args h0).2 ⟨a, ha, hv⟩)
    have HA := Lib.hid (show Sl W G tyD t.args (.slice A2 t.args.length c2) from hT.args)
    have HB := Lib.hid hB
    have HP := Lib.hid hP
    have HS := Lib.hid hS
    have HG := Lib.hid hG
    have HL := Lib.hid hL
    have HLen := Lib.hid hlen
    have HR := Lib.hid hr
    clear hB hP hS hG hL hT hr hσ hlen h0 hV htb
    go_enter Tryd.func38, Tryd.ntmps38
    go_wp2_with fail
    go_loopw [6, 60] (fun nv i wr => ∃ (j : Nat) (n : Int) (of1 : List Int), j ≤ t.args.length ∧ i = .int .i64 j ∧ nv = .int .i64 n ∧ 1 ≤ n ∧ n ≤ 4097 ∧ Lim4 of1 ∧ of1.length = of.length ∧ Blk wr g 3 (intz of1) ∧ Keeps (· = g) W wr ∧ Hid (sizeL (sizeP σ k) (t.args.drop j) n of1 = some (r, of'))) (fun _ i _ => t.args.length - (intOf i).toNat)
    case atStart => exact ⟨0, 1, of, Nat.zero_le _, rfl, rfl, by omega, by omega, HL.out, rfl, HB.out.alloc _, (Keeps.refl _ _).alloc _, HR.out⟩
    case round =>
      obtain ⟨j, n, of1, hj, rfl, rfl, hn0, hn1, hl1, hln1, hb1, hk1, hr1⟩ := hrel
      by_cases hlt : j < t.args.length
      · have hr2 := hr1.out
        rw [List.drop_eq_getElem_cons hlt, sizeL] at hr2
        obtain ⟨ga, offa, av, hadr, hga, e0, e1, e2, e3, hTa⟩ := tyD.get (HA.out.keeps hk1 (fun i hi => HG.out i hi)) hlt
        obtain rfl := hadr
        have hva := HVA.out _ (List.getElem_mem hlt)
        obtain ⟨a, ha⟩ : ∃ a, t.args[j] = a := ⟨_, rfl⟩
        rw [ha] at e0 e1 e2 hTa hr2 hva
        obtain ⟨A4, c4, rfl, _⟩ := hTa.form
        have hgal := block_lt_of_cell e0
        cases hq : sizeP σ k of1 a with
        | none => rw [hq] at hr2; cases hr2
        | some pr =>
          obtain ⟨q, o1⟩ := pr
          rw [hq] at hr2
          obtain ⟨hok1, hok2, hok3, hok4⟩ := sizeP_ok σ k _ _ _ _ hl1 hq
          have hka : Keeps (fun _ => False) wr (wr.alloc (.cells #[.int .i64 a.kind, .string a.name, .int .i64 a.var, .slice A4 a.args.length c4] 24)) := (Keeps.refl _ _).alloc _
          have HK := Lib.hid (hk1.trans (hka.mono (Y := (· = g)) (fun _ _ h => h.elim)) (fun _ _ h => h))
          have HC := Lib.hid (HIH.out _ G _ p g of1 a _ q o1 (HS.out.keeps HK.out (fun i hi => HG.out i hi)) (by rw [hln1]; exact HP.out.keeps HK.out hpg) (hb1.keeps hka (fun h => h)) HG.out (by rw [hln1]; exact HLen.out) (hTa.keeps hka (fun _ _ h => h)) hva hl1 hq)
          unfold tyV at HC
          have HR2 := Lib.hid hr2
          have HL1 : Hid (o1.length = of.length) := hok4.trans hln1
          have HO3 := Lib.hid hok3
          have j0 : (0 : Int) ≤ (j : Int) := by omega
          have j1 : (j : Int) < (t.args.length : Int) := by omega
          clear hr1 hr2 hTa hva ha hka hq hb1 hk1 hok3 hok4 hln1 hl1
          go_wp2_with fail
          with_reducible refine HC.out.mono ?_
          rintro e w1 ⟨rfl, hB1, hk1⟩
          go_wp2_with fail
          refine ⟨⟨j + 1, min (n + q) 4097, o1, by omega, by push_cast; rfl, ?_, by omega, by omega, HO3.out, HL1.out, hB1, HK.out.trans hk1 (fun _ _ h => h), HR2.out⟩, by simp [intOf]; omega⟩
          congr 1
          split <;> omega
      · obtain rfl : j = t.args.length := by omega
        have hr2 := hr1.out
        rw [List.drop_length, sizeL] at hr2
        simp only [Option.some.injEq, Prod.mk.injEq] at hr2
        have HR2 := Lib.hid hr2
        have j1 : ¬ (t.args.length : Int) < (t.args.length : Int) := by omega
        clear hr1 hr2
        go_wp2_with fail
        go_ret
        exact ⟨by rw [← HR2.out.1]; rfl, by rw [← HR2.out.2]; exact hb1, hk1⟩
theorem size_any (σ : List Ty) (hσ : SubIn σ) : ∀ k, SizeAt σ k
  | 0 => size_step σ hσ 0 fun _ h => by omega
  | k + 1 => size_step σ hσ (k + 1) fun m h => by
    obtain rfl : k = m := by omega
    exact size_any σ hσ k
end Go.Proofs.YthchnabhbpdfgaaDoor
