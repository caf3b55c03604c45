/- unify.CheckSubst. -/
import Derived.Test.YthchnabhbpdfgaaDoorUSized
import Derived.Test.YthchnabhbpdfgaaDoorUChk
namespace Go.Proofs.YthchnabhbpdfgaaDoor
open Go.RowKit Go.Shelf

mutual
theorem chk_fine : ∀ (t : Ty) (left : Int) (row : Bool) (depth : Int), (chk t left row depth).1 = 0 → (nodes t : Int) ≤ left - (chk t left row depth).2 ∧ ∀ v ∈ freeP t, 0 ≤ v ∧ v < 4096
  | .mk k n v l, left, row, depth, h => by
    rw [chk] at h ⊢
    split at h
    · exact absurd (show (2 : Int) = 0 from h) (by decide)
    rename_i h1
    rw [if_neg h1]
    split at h
    · exact absurd (show (9 : Int) = 0 from h) (by decide)
    rename_i h2
    rw [if_neg h2]
    split at h
    · exact absurd (show (3 : Int) = 0 from h) (by decide)
    rename_i h3
    rw [if_neg h3]
    split at h
    · exact absurd (show (9 : Int) = 0 from h) (by decide)
    rename_i h4
    rw [if_neg h4]
    split at h
    · exact absurd (show (4 : Int) = 0 from h) (by decide)
    rename_i h5
    rw [if_neg h5]
    obtain ⟨k1, k2⟩ := chks_fine k l 0 (left - 1) (depth + 1) h
    refine ⟨by rw [nodes]; push_cast; omega, fun x hx => ?_⟩
    by_cases h0 : k = 0
    · rw [freeP_var (t := .mk k n v l) h0] at hx
      rw [List.mem_singleton.1 hx]
      show 0 ≤ v ∧ v < 4096
      omega
    · obtain ⟨a, ha, hxa⟩ := (freeP_args (t := .mk k n v l) h0).1 hx
      exact k2 a ha x hxa
theorem chks_fine (k : Int) : ∀ (l : List Ty) (i : Nat) (left depth : Int), (chks k l i left depth).1 = 0 → (nodess l : Int) ≤ left - (chks k l i left depth).2 ∧ ∀ a ∈ l, ∀ v ∈ freeP a, 0 ≤ v ∧ v < 4096
  | [], i, left, depth, _ => by rw [chks]; exact ⟨by simp [nodess], fun a h => by simp at h⟩
  | a :: r, i, left, depth, h => by
    rw [chks] at h ⊢
    split at h
    · rename_i hz
      rw [if_pos hz]
      obtain ⟨k1, k2⟩ := chk_fine a left (rowed k i a.kind) depth hz
      obtain ⟨j1, j2⟩ := chks_fine k r (i + 1) _ depth h
      refine ⟨by rw [nodess]; push_cast; omega, fun b hb v hv => ?_⟩
      rcases List.mem_cons.1 hb with rfl | hb
      · exact k2 v hv
      · exact j2 b hb v hv
    · rename_i hz
      exact absurd h hz
end

/-- What is wrong with a type of a substitution; 0: nothing. -/
def tyErr (n : Nat) (t : Ty) : Int := if (chk t 4096 (decide (4 ≤ t.kind)) 1).1 ≠ 0 then (chk t 4096 (decide (4 ≤ t.kind)) 1).1 else if (freeP t).any (fun v => decide ((n : Int) ≤ v)) = true then 4 else 0
def tysErr (n : Nat) : List Ty → Int
  | [] => 0
  | t :: r => if tyErr n t ≠ 0 then tyErr n t else tysErr n r
theorem tyErr_ok {n : Nat} {t : Ty} (h : tyErr n t = 0) : nodes t ≤ 4096 ∧ ∀ v ∈ freeP t, 0 ≤ v ∧ v < (n : Int) := by
  unfold tyErr at h
  split at h
  · rename_i h1; exact absurd h h1
  rename_i h1
  have h1 : (chk t 4096 (decide (4 ≤ t.kind)) 1).1 = 0 := Classical.not_not.1 h1
  obtain ⟨k1, k2⟩ := chk_fine t _ _ _ h1
  have k3 := (chk_bound t 4096 (decide (4 ≤ t.kind)) 1).2 h1
  split at h
  · exact absurd h (by decide)
  rename_i h2
  refine ⟨by omega, fun v hv => ⟨(k2 v hv).1, ?_⟩⟩
  by_cases hle : (n : Int) ≤ v
  · exact absurd (List.any_eq_true.2 ⟨v, hv, decide_eq_true hle⟩) h2
  · omega
theorem tysErr_ok {n : Nat} : ∀ {l : List Ty}, tysErr n l = 0 → ∀ t ∈ l, tyErr n t = 0
  | [], _, t, h => by simp at h
  | a :: r, h, t, ht => by
    rw [tysErr] at h
    split at h
    · rename_i h1; exact absurd h h1
    · rename_i h1
      rcases List.mem_cons.1 ht with rfl | ht
      · exact Classical.not_not.1 h1
      · exact tysErr_ok h t ht
theorem subOk_of {σ : List Ty} (h : tysErr σ.length σ = 0) : SubOk σ :=
  ⟨fun x hx => by have := (tyErr_ok (tysErr_ok h x hx)).1; omega, fun x hx => (tyErr_ok (tysErr_ok h x hx)).2⟩
def cycS (σ : List Ty) (k : Nat) : List Nat → List Int → Option Bool
  | [], _ => some false
  | v :: r, st => match cyc σ k st v with
    | none => none
    | some (true, _) => some true
    | some (false, st') => cycS σ k r st'
/-- CheckSubst. -/
def subC (σ : List Ty) (k : Nat) : Option Int :=
  if 4096 < σ.length then some 2
  else if tysErr σ.length σ ≠ 0 then some (tysErr σ.length σ)
  else match cycS σ k (List.range σ.length) (List.replicate σ.length 0) with
    | none => none
    | some true => some 8
    | some false => sizedP σ k

set_option maxHeartbeats 400000 in
theorem sub_clo (b : Nat) (A : Option Addr) (n c : Nat) (v : Int) (W : World) (h : W.cell? ⟨b, 0, none⟩ = some (.slice A n c)) :
    Calls Tryd.prog 24 (#[.int .i64 v] ++ #[.pointer (some ⟨b, 0, none⟩)]) W fun e w' => e = .returned (.bool (decide ((n : Int) ≤ v))) ∧ w' = W := by
  change Calls Tryd.prog 24 #[.int .i64 v, .pointer (some ⟨b, 0, none⟩)] W _
  go_enter Tryd.func24, Tryd.ntmps24
  go_wp2_with fail
  go_ret
  exact ⟨rfl, rfl⟩

set_option maxRecDepth 100000 in
set_option maxHeartbeats 4000000 in
theorem subst_any (σ : List Ty) (k : Nat) (sv : Value) (G : Nat → Prop) (W : World) (hS : Sl W G tyD σ sv) (hG : ∀ b, G b → b < W.heap.size) (hz : Szs W) (r : Int) (hr : subC σ k = some r) :
    Calls Tryd.prog 14 #[sv] W fun e w' => e = .returned (.int .i64 r) ∧ Below W.heap.size W w' := by
  obtain ⟨A, c, rfl, hlc, hcm, _⟩ := hS.form
  have hlm : σ.length ≤ 9223372036854775807 := by unfold maxLen at hcm; omega
  have hz0 := block_lt_of_cell hz.c0
  have HS := Lib.hid hS
  have HG := Lib.hid hG
  have HZ := Lib.hid hz
  rw [subC] at hr
  clear hS hG hz
  obtain ⟨b0, hb0⟩ : ∃ b0, W.heap.size = b0 := ⟨_, rfl⟩
  obtain ⟨W0, hW0⟩ : ∃ W0, W.alloc (.cells #[.slice A σ.length c] 25) = W0 := ⟨_, rfl⟩
  have hk0 : Keeps (fun _ => False) W W0 := by rw [← hW0]; exact (Keeps.refl _ _).alloc _
  have hbb : Blk W0 b0 25 [.slice A σ.length c] := by
    rw [← hW0, ← hb0]; exact Blk.new W _ [_]
  have HB0 := Lib.hid hb0
  have HW0 := Lib.hid hW0
  have HK0 := Lib.hid hk0
  have HBB := Lib.hid hbb
  have s0 := hbb.cell (i := 0) rfl
  clear hW0 hk0 hbb
  by_cases hbig : 4096 < σ.length
  · rw [if_pos hbig] at hr
    have HR := Lib.hid (Option.some.inj hr)
    have hbig' : (4096 : Int) < (σ.length : Int) := by omega
    clear hr
    go_enter Tryd.func14, Tryd.ntmps14
    go_wp2_with fail
    go_ret
    exact ⟨by rw [← HR.out]; rfl, ((Keeps.refl (fun _ => False) W).alloc _).below (fun _ h => h.elim) (Nat.le_of_eq hb0.symm)⟩
  · rw [if_neg hbig] at hr
    have hbig' : ¬ (4096 : Int) < (σ.length : Int) := by omega
    have HR := Lib.hid hr
    clear hr
    go_enter Tryd.func14, Tryd.ntmps14
    go_wp2_with fail
    rw [HW0.out]
    go_loopw [13] (fun i wr => ∃ j : Nat, j ≤ σ.length ∧ i = .int .i64 j ∧ Keeps (fun _ => False) W0 wr ∧ Hid (tysErr σ.length σ = tysErr σ.length (σ.drop j))) (fun i _ => σ.length - (intOf i).toNat)
    case atStart => exact ⟨0, Nat.zero_le _, rfl, Keeps.refl _ _, rfl⟩
    case round =>
      obtain ⟨j, hj, rfl, hk, he⟩ := hrel
      by_cases hlt : j < σ.length
      · have he2 := he.out
        rw [List.drop_eq_getElem_cons hlt, tysErr] at he2
        obtain ⟨ga, offa, av, hadr, hga, e0, e1, e2, e3, hTa⟩ := tyD.get ((HS.out.keeps HK0.out (fun _ _ h => h)).keeps hk (fun _ _ h => h)) hlt
        obtain rfl := hadr
        obtain ⟨a, ha⟩ : ∃ a, σ[j] = a := ⟨_, rfl⟩
        rw [ha] at e0 e1 e2 hTa he2
        obtain ⟨A4, c4, rfl, _⟩ := hTa.form
        have hgal := block_lt_of_cell e0
        have j0 : (0 : Int) ≤ (j : Int) := by omega
        have j1 : (j : Int) < (σ.length : Int) := by omega
        have s1 := hk.cell s0 (fun h => h)
        have HE := Lib.hid he2
        have HK := Lib.hid hk
        have HTa := Lib.hid hTa
        have hwb : b0 + 1 ≤ wr.heap.size := by have := (HBB.out.keeps hk (fun h => h)).lt; omega
        have hGw : ∀ b, G b → b < wr.heap.size := fun b hb => by have := HG.out b hb; omega
        clear he he2 hk hTa ha
        obtain ⟨tb, htb⟩ : ∃ tb, wr.heap.size = tb := ⟨_, rfl⟩
        obtain ⟨W2, hW2⟩ : ∃ W2, (wr.alloc (.cells #[.int .i64 a.kind, .string a.name, .int .i64 a.var, .slice A4 a.args.length c4] 24)).alloc (.cells #[.int .i64 4096] 43) = W2 := ⟨_, rfl⟩
        have hk2 : Keeps (fun _ => False) wr W2 := by rw [← hW2]; exact ((Keeps.refl _ _).alloc _).alloc _
        have ht2 : Blk W2 tb 24 [.int .i64 a.kind, .string a.name, .int .i64 a.var, .slice A4 a.args.length c4] := by
          rw [← hW2, ← htb]; exact (Blk.new wr _ [_, _, _, _]).alloc _
        have hc2 : Blk W2 (tb + 1) 43 [.int .i64 4096] := by
          have := Blk.new (wr.alloc (.cells #[.int .i64 a.kind, .string a.name, .int .i64 a.var, .slice A4 a.args.length c4] 24)) 43 [.int .i64 4096]
          rw [hW2] at this
          simpa [htb] using this
        have HCk := Lib.hid (chk_all a W2 tb (tb + 1) _ 4096 1 (decide (4 ≤ a.kind)) ((HTa.out.keeps hk2 (fun _ _ h => h)).mono (fun b hb => by have := hGw b hb; omega)) hc2 (by omega) (by omega) (((HZ.out.keeps HK0.out (fun h => h)).keeps HK.out (fun h => h)).keeps hk2 (fun h => h)) (by omega) (by omega) (by omega) (by omega))
        have HW2 := Lib.hid hW2
        have HK2 := Lib.hid hk2
        have HT2 := Lib.hid ht2
        clear hW2 hk2 ht2 hc2
        go_wp2_with fail
        rw [HW2.out]
        with_reducible refine HCk.out.mono ?_
        rintro e w3 ⟨rfl, _, hk3⟩
        have hkw3 : Keeps (fun _ => False) wr w3 := HK2.out.trans hk3 (fun i hi h => by omega)
        obtain ⟨rc, hrc⟩ : ∃ rc, (chk a 4096 (decide (4 ≤ a.kind)) 1).1 = rc := ⟨_, rfl⟩
        have HRc := Lib.hid hrc
        rw [hrc]
        by_cases h1 : rc = 0
        · subst h1
          have hfine := chk_fine a _ _ _ hrc
          have hbnd := (chk_bound a 4096 (decide (4 ≤ a.kind)) 1).2 hrc
          have ht3 := HT2.out.keeps hk3 (fun h => by omega)
          have d0 := ht3.cell (i := 0) rfl
          have d1 := ht3.cell (i := 1) rfl
          have d2 := ht3.cell (i := 2) rfl
          have d3 := ht3.cell (i := 3) rfl
          have HFr := Lib.hid (free_any a w3 G _ (HTa.out.keeps hkw3 (fun _ _ h => h)) (by omega))
          have s3 := hkw3.cell s1 (fun h => h)
          have HKw3 := Lib.hid hkw3
          clear hfine hbnd ht3 hrc hk3 hkw3
          go_wp2_with fail
          with_reducible refine HFr.out.mono ?_
          rintro e w4 ⟨u, rfl, hb4, hsu⟩
          have s4 := hb4.cell (block_lt_of_cell s3) |>.trans s3
          obtain ⟨R, hR⟩ : ∃ R, (freeP a).any (fun v => decide ((σ.length : Int) ≤ v)) = R := ⟨_, rfl⟩
          have HCf := Lib.hid (intContainsFuncS (freeP a) u (fun b => w3.heap.size ≤ b) w4 24 #[.pointer (some ⟨b0, 0, none⟩)] (enters_of Tryd.func24 (by kernel_rfl) rfl)
            (fun k W' => W' = w4 ∧ R = ((freeP a).drop k).any (fun v => decide ((σ.length : Int) ≤ v))) (fun W' => W' = w4 ∧ R = true) ⟨rfl, by rw [List.drop_zero]; exact hR.symm⟩
            (fun k W' hI => by rw [hI.1]; exact hsu)
            (fun k hk W' hI => by
              obtain ⟨rfl, hI2⟩ := hI
              rw [List.drop_eq_getElem_cons hk, List.any_cons] at hI2
              refine (sub_clo b0 _ σ.length c _ W' s4).mono ?_
              rintro e w5 ⟨rfl, rfl⟩
              cases hd : decide ((σ.length : Int) ≤ (freeP a)[k])
              · rw [hd, Bool.false_or] at hI2
                exact .inl ⟨rfl, rfl, hI2⟩
              · rw [hd, Bool.true_or] at hI2
                exact .inr ⟨rfl, rfl, hI2⟩))
          have HRR := Lib.hid hR
          have hk4 : Keeps (fun _ => False) wr w4 := HKw3.out.trans (Keeps.of_below (X := fun _ => False) hb4) (fun _ _ h => h)
          have HK4 := Lib.hid hk4
          obtain ⟨A9, c9, rfl, _⟩ := hsu.form
          clear hsu hR hb4 hk4
          go_wp2_with fail
          with_reducible refine HCf.out.mono ?_
          rintro e w5 (⟨rfl, rfl, hR5⟩ | ⟨rfl, rfl, hR5⟩)
          · rw [List.drop_length] at hR5
            have hte : tyErr σ.length a = 0 := by
              unfold tyErr
              rw [HRc.out, if_neg (by decide), HRR.out, hR5]; rfl
            have HE2 := Lib.hid HE.out
            rw [hte, if_neg (by decide)] at HE2
            clear hte hR5
            go_wp2_with fail
            go_roundw
            case rel => exact ⟨j + 1, by omega, by go_num, HK.out.trans HK4.out (fun _ _ h => h), HE2.out⟩
            case measure => simp [intOf]; omega
          · have hte : tyErr σ.length a = 4 := by
              unfold tyErr
              rw [HRc.out, if_neg (by decide), HRR.out, hR5]; rfl
            have HE2 := Lib.hid HE.out
            rw [hte, if_pos (by decide)] at HE2
            have HR2 := Lib.hid HR.out
            rw [if_pos (by rw [HE2.out]; decide), HE2.out] at HR2
            clear hte hR5
            go_wp2_with fail
            go_ret
            exact ⟨by rw [← Option.some.inj HR2.out]; rfl, (HK0.out.trans (HK.out.trans HK4.out (fun _ _ h => h)) (fun _ _ h => h)).below (fun _ h => h.elim) (by omega)⟩
        · have h1b : (rc != 0) = true := bne_iff_ne.2 h1
          have hte : tyErr σ.length a = rc := by unfold tyErr; rw [HRc.out, if_pos h1]
          have HE2 := Lib.hid HE.out
          rw [hte, if_pos h1] at HE2
          have HR2 := Lib.hid HR.out
          rw [if_pos (by rw [HE2.out]; exact h1), HE2.out] at HR2
          go_wp2_with fail
          go_ret
          exact ⟨by rw [← Option.some.inj HR2.out]; rfl, (HK0.out.trans (HK.out.trans hkw3 (fun _ _ h => h)) (fun _ _ h => h)).below (fun _ h => h.elim) (by omega)⟩
      · obtain rfl : j = σ.length := by omega
        have he2 := he.out
        rw [List.drop_length, tysErr] at he2
        have HSub := Lib.hid (subOk_of he2)
        have HR2 := Lib.hid HR.out
        rw [if_neg (by rw [he2]; decide)] at HR2
        have s1 := hk.cell s0 (fun h => h)
        have hlt' : ¬ (σ.length : Int) < (σ.length : Int) := by omega
        have HMk := make_ints σ.length (by omega)
        have HK := Lib.hid hk
        have hwb : b0 + 1 ≤ wr.heap.size := by have := (HBB.out.keeps hk (fun h => h)).lt; omega
        have hGw : ∀ b, G b → b < wr.heap.size := fun b hb => by have := HG.out b hb; omega
        have HSw := Lib.hid ((HS.out.keeps HK0.out (fun _ _ h => h)).keeps hk (fun _ _ h => h))
        clear he he2 hk
        obtain ⟨g, hg⟩ : ∃ g, wr.heap.size = g := ⟨_, rfl⟩
        obtain ⟨w2, hw2⟩ : ∃ w2, wr.alloc (.cells (intz (List.replicate σ.length 0)).toArray 3) = w2 := ⟨_, rfl⟩
        have hk2 : Keeps (fun _ => False) wr w2 := by rw [← hw2]; exact (Keeps.refl _ _).alloc _
        have hg2 : Blk w2 g 3 (intz (List.replicate σ.length 0)) := by rw [← hw2, ← hg]; exact Blk.new wr _ _
        have s2 := hk2.cell s1 (fun h => h)
        have HS2 := Lib.hid (HSw.out.keeps hk2 (fun _ _ h => h))
        have HK2 := Lib.hid (HK.out.trans hk2 (fun _ _ h => h))
        have HG2 := Lib.hid hg2
        have HW2 := Lib.hid hw2
        have HGl : Hid (∀ b, G b → b < g) := by rw [← hg]; exact hGw
        have hbg : b0 ≠ g := by omega
        have hgz := hg2.lt
        have hbl : b0 < wr.heap.size := hwb
        have HGe := Lib.hid hg
        clear hw2 hk2 hg2 hg
        go_wp2_with fail
        rw [HW2.out, HGe.out]
        go_loopw [37] (fun i wq => ∃ (j : Nat) (st : List Int), j ≤ σ.length ∧ i = .int .i64 j ∧ st.length = σ.length ∧ Blk wq g 3 (intz st) ∧ Keeps (· = g) w2 wq ∧ Hid (cycS σ k (List.range σ.length) (List.replicate σ.length 0) = cycS σ k ((List.range σ.length).drop j) st)) (fun i _ => σ.length - (intOf i).toNat)
        case atStart => exact ⟨0, _, Nat.zero_le _, rfl, by simp, HG2.out, Keeps.refl _ _, rfl⟩
        case round =>
          obtain ⟨j, st, hj, rfl, hln, hb1, hk1, hc1⟩ := hrel
          have s3 := hk1.cell s2 hbg
          have HKq := Lib.hid (((HK0.out.trans HK2.out (fun _ _ h => h)).mono (Y := (· = g)) (fun _ _ h => h.elim)).trans hk1 (fun _ _ h => h))
          have HSq := Lib.hid (HS2.out.keeps hk1 (fun i hi => by have := HGl.out i hi; omega))
          have hwq := hk1.size
          by_cases hlt : j < σ.length
          · have hc2 := hc1.out
            rw [List.drop_eq_getElem_cons (by simpa using hlt), List.getElem_range, cycS] at hc2
            have j0 : (0 : Int) ≤ (j : Int) := by omega
            have j1 : (j : Int) < (σ.length : Int) := by omega
            cases hq : cyc σ k st j with
            | none =>
              rw [hq] at hc2
              have hR3 := HR2.out
              rw [hc2] at hR3
              cases hR3
            | some pr =>
              obtain ⟨bq, o1⟩ := pr
              rw [hq] at hc2
              have HC := Lib.hid (cyc_any σ HSub.out k _ G wr g st j bq o1 HSq.out hb1 (fun h => by have := HGl.out g h; omega) hln hlt hq)
              rw [hln] at HC
              have HLn : Hid (o1.length = σ.length) := (cyc_len σ k _ _ _ _ hq).trans hln
              have HK1 := Lib.hid hk1
              have HC2 := Lib.hid hc2
              clear hc1 hc2 hq hb1 hk1 hln
              go_wp2_with fail
              with_reducible refine HC.out.mono ?_
              rintro e w3 ⟨rfl, hb3, hk3⟩
              cases bq
              · go_wp2_with fail
                go_roundw
                case rel => exact ⟨j + 1, o1, by omega, by go_num, HLn.out, hb3, HK1.out.trans hk3 (fun _ _ h => h), HC2.out⟩
                case measure => simp [intOf]; omega
              · have hR3 := HR2.out
                rw [HC2.out] at hR3
                have HR3 := Lib.hid (Option.some.inj hR3)
                clear hR3
                go_wp2_with fail
                go_ret
                exact ⟨by rw [← HR3.out]; rfl, (HKq.out.trans hk3 (fun _ _ h => h)).below (fun i hi => by have h1 : i = g := hi; have := HGe.out; omega) (by omega)⟩
          · obtain rfl : j = σ.length := by omega
            have hc2 := hc1.out
            rw [List.drop_of_length_le (by simp), cycS] at hc2
            have hR3 := HR2.out
            rw [hc2] at hR3
            have HSz := Lib.hid (sized_any σ HSub.out.free k _ G wr HSq.out (fun b hb => by have := HGl.out b hb; omega) (by omega) r hR3)
            clear hc1 hc2 hb1 hk1 hR3
            go_wp2_with fail
            with_reducible refine HSz.out.mono ?_
            rintro e w3 ⟨rfl, hb3⟩
            go_wp2_with fail
            go_ret
            exact ⟨rfl, (HKq.out.trans (Keeps.of_below (X := (· = g)) hb3) (fun _ _ h => h)).below (fun i hi => by have h1 : i = g := hi; have := HGe.out; omega) (by omega)⟩
end Go.Proofs.YthchnabhbpdfgaaDoor
