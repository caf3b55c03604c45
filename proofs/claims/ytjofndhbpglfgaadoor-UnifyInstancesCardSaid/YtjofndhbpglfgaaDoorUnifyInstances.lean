/- UnifyInstances: whatever the input, the law answers true. The card ties the variable unify.sizes to the program's text. -/
import Derived.Test.YtjofndhbpglfgaaDoorUInstL
import Derived.Test.YtjofndhbpglfgaaDoorUApply
import Derived.Test.YtjofndhbpglfgaaDoorNormW
import Derived.Test.YtjofndhbpglfgaaDoorHanded
import Derived.Lib.LaidTab
import Derived.LaidSub
namespace Go.Proofs.YtjofndhbpglfgaaDoor.unifyInstances
open Go.RowKit Go.Shelf Go.ChangeShapes Go.WideShapes Go.Sort Stab Go.Proofs.YtjofndhbpglfgaaDoor

/-- A row of types in a block of its own. -/
structure Own4 (F : Nat → Prop) (W : World) (g cap : Nat) (σ : List Ty) : Prop where
  row : ∃ cur : List Value, Blk W g 45 cur ∧ σ.length ≤ cap ∧ cap ≤ maxLen ∧ cur.length = cap * 4 ∧ RpAll W F (σ.map tyD) (cur.take (σ.length * 4))
  ne : ¬ F g
section
variable {F : Nat → Prop} {W W' : World} {g cap : Nat} {σ : List Ty}
theorem Own4.sle (h : Own4 F W g cap σ) : SlE W (· = g) F tyD σ (.slice (some ⟨g, 0, none⟩) σ.length cap) := by
  obtain ⟨cur, hb, h1, h2, h3, h4⟩ := h.row
  refine ⟨_, cap, rfl, h1, h2, (fun h => nomatch h), fun _ => ⟨g, 0, _, rfl, rfl, h4, fun j u hj => ?_⟩⟩
  rw [Nat.zero_add]
  have hj' := hj
  rw [List.getElem?_take] at hj'
  split at hj'
  · exact hb.cell hj'
  · cases hj'
theorem Own4.lt (h : Own4 F W g cap σ) : g < W.heap.size := by
  obtain ⟨cur, hb, _⟩ := h.row
  exact hb.lt
theorem Own4.sl (h : Own4 F W g cap σ) (hF : ∀ b, F b → b < W.heap.size) : Sl W (fun b => b < W.heap.size) tyD σ (.slice (some ⟨g, 0, none⟩) σ.length cap) := h.sle.sl (fun b hb => by rw [hb]; exact h.lt) hF
theorem Own4.free (h : Own4 F W g cap σ) (i : Nat) : W.frozen? ⟨g, i, none⟩ = false := by
  obtain ⟨cur, hb, _⟩ := h.row
  exact hb.free i
theorem Own4.cells (h : Own4 F W g cap σ) {v : Nat} (hv : v < σ.length) : ∃ (x : Ty) (xv : Value), W.cell? ⟨g, v * 4, none⟩ = some (.int .i64 x.kind) ∧ W.cell? ⟨g, v * 4 + 1, none⟩ = some (.string x.name) ∧ W.cell? ⟨g, v * 4 + 2, none⟩ = some (.int .i64 x.var) ∧ W.cell? ⟨g, v * 4 + 3, none⟩ = some xv := by
  obtain ⟨g2, off, xv, hadr, hg, e0, e1, e2, e3, _⟩ := tyD.getE h.sle hv
  simp only [Option.some.injEq, Addr.mk.injEq] at hadr
  obtain ⟨rfl, rfl, _⟩ := hadr
  rw [Nat.zero_add] at e0 e1 e2 e3
  exact ⟨σ[v], xv, e0, e1, e2, e3⟩
theorem Own4.keeps {X : Nat → Prop} (h : Own4 F W g cap σ) (hk : Keeps X W W') (hg : ¬ X g) (hX : ∀ i, F i → ¬ X i) : Own4 F W' g cap σ := by
  obtain ⟨cur, hb, h1, h2, h3, h4⟩ := h.row
  exact ⟨⟨cur, hb.keeps hk hg, h1, h2, h3, h4.frame (fun _ h => h) (fun b off u hb hc => hk.cell hc (hX b hb))⟩, h.ne⟩
theorem Own4.set {t : Ty} {av : Value} {v : Nat} (h : Own4 F W g cap σ) (ht : TyC W F t av) (hv : v < σ.length) :
    Own4 F ((((W.setCell ⟨g, v * 4, none⟩ (.int .i64 t.kind)).setCell ⟨g, v * 4 + 1, none⟩ (.string t.name)).setCell ⟨g, v * 4 + 2, none⟩ (.int .i64 t.var)).setCell ⟨g, v * 4 + 3, none⟩ av) g cap (σ.set v t) ∧
      Keeps (· = g) W ((((W.setCell ⟨g, v * 4, none⟩ (.int .i64 t.kind)).setCell ⟨g, v * 4 + 1, none⟩ (.string t.name)).setCell ⟨g, v * 4 + 2, none⟩ (.int .i64 t.var)).setCell ⟨g, v * 4 + 3, none⟩ av) := by
  obtain ⟨cur, hb, h1, h2, h3, h4⟩ := h.row
  have hk : Keeps (· = g) W ((((W.setCell ⟨g, v * 4, none⟩ (.int .i64 t.kind)).setCell ⟨g, v * 4 + 1, none⟩ (.string t.name)).setCell ⟨g, v * 4 + 2, none⟩ (.int .i64 t.var)).setCell ⟨g, v * 4 + 3, none⟩ av) :=
    ((((Keeps.refl (· = g) W).setCell (p := ⟨g, v * 4, none⟩) (fun _ => rfl) _).setCell (p := ⟨g, v * 4 + 1, none⟩) (fun _ => rfl) _).setCell (p := ⟨g, v * 4 + 2, none⟩) (fun _ => rfl) _).setCell (p := ⟨g, v * 4 + 3, none⟩) (fun _ => rfl) _
  refine ⟨⟨⟨_, (((hb.set_ (v * 4) _).set_ (v * 4 + 1) _).set_ (v * 4 + 2) _).set_ (v * 4 + 3) _, by rwa [List.length_set], h2, by simp only [List.length_set]; exact h3, ?_⟩, h.ne⟩, hk⟩
  have hv4 : v * 4 + 4 ≤ σ.length * 4 := by omega
  rw [List.length_set, List.take_set, List.take_set, List.take_set, List.take_set, set4 _ _ _ _ _ _ (by rw [List.length_take]; omega)]
  have h5 : RpAll W F ((σ.set v t).map tyD) _ := RpAll.set_at tyD.wide t (t.cells av) (tyD.rp.2 ⟨av, rfl, ht⟩) σ _ v hv h4
  exact h5.frame (fun b hb' => hb') (fun b off u hb' hc => hk.cell hc (fun e => h.ne (by rw [← e]; exact hb')))
end

set_option maxRecDepth 100000 in
set_option maxHeartbeats 16000000 in
theorem walk (a : Ty) (L : List Ty) (av lv : Value) (W : World) (hT : TyC W (· < W.heap.size) a av) (hL : Sl W (· < W.heap.size) tyD L lv) (hz : Szs W) :
    Calls Tryd.prog 11 #[tyV a av, lv] W fun e w' => e = .returned (.bool true) ∧ Below W.heap.size W w' := by
  obtain ⟨A, c, rfl, _⟩ := hT.form
  obtain ⟨Al, cl, rfl, hlc, hcm, _⟩ := hL.form
  have hll : L.length ≤ 9223372036854775807 := by unfold maxLen at hcm; omega
  obtain ⟨b0, hb0⟩ : ∃ b0, W.heap.size = b0 := ⟨_, rfl⟩
  obtain ⟨W0, hW0⟩ : ∃ W0, W.alloc (.cells #[.int .i64 a.kind, .string a.name, .int .i64 a.var, .slice A a.args.length c] 45) = W0 := ⟨_, rfl⟩
  have hk0 : Keeps (fun _ => False) W W0 := by rw [← hW0]; exact (Keeps.refl _ _).alloc _
  have hA3 : Blk W0 b0 45 [.int .i64 a.kind, .string a.name, .int .i64 a.var, .slice A a.args.length c] := by
    rw [← hW0, ← hb0]; exact Blk.new W _ [_, _, _, _]
  have hs0 := hk0.size
  have a0 := hA3.cell (i := 0) rfl
  have a1 := hA3.cell (i := 1) rfl
  have a2 := hA3.cell (i := 2) rfl
  have a3 := hA3.cell (i := 3) rfl
  have HA3 := Lib.hid hA3
  have HTa := Lib.hid ((hT.keeps hk0 (fun _ _ h => h)).mono (fun b hb => Nat.lt_of_lt_of_le hb hs0) : TyC W0 (· < W0.heap.size) a _)
  have HL := Lib.hid ((hL.keeps hk0 (fun _ _ h => h)).mono (fun b hb => Nat.lt_of_lt_of_le hb hs0) : Sl W0 (· < W0.heap.size) tyD L _)
  have HZ := Lib.hid (hz.keeps hk0 (fun h => h))
  have HK0 := Lib.hid hk0
  have HW0 := Lib.hid hW0
  have HB0 := Lib.hid hb0
  unfold tyV
  clear hT hL hz hk0 hW0 hb0 hA3 hs0 hlc hcm
  go_enter Tryd.func11, Tryd.ntmps11
  go_wp2_with fail
  rw [HW0.out, HB0.out]
  go_wp2_with fail
  refine (pair_any W0 a a A A c c).mono ?_
  rintro e w1 ⟨sv, rfl, hs1, hb1⟩
  obtain ⟨As, cs, rfl, _⟩ := hs1.form
  rw [idS_len]
  have hk1 := Keeps.of_below (X := fun _ => False) hb1
  have HS1 := Lib.hid (hs1.mono (fun b hb => hb.2) : Sl w1 (fun b => b < w1.heap.size) tyD (idS 12) _)
  have HK1 := Lib.hid hk1
  clear hs1 hb1 hk1 a0 a1 a2 a3
  go_wp2_with fail
  with_reducible refine (num_any _).mono ?_
  rintro e w2 ⟨rfl, hk2⟩
  obtain ⟨σ0, hu0, hl0⟩ := unify_first (v := 1) (by decide)
  have HU0 : Hid (∀ X, Keeps (fun _ => False) w1 X → Calls Tryd.prog 21 #[.slice As 12 cs, .agg #[.int .i64 0, .string ⟨#[]⟩, .int .i64 1, .slice none 0 0], tyV numT (.slice none 0 0)] X (fun e w' => (∃ gt ct, e = .returned (.tuple #[.slice (some ⟨gt, 0, none⟩) 12 ct, .int .i64 0])) ∧ Keeps (fun _ => False) X w')) := fun X hk => by
    have hsx := hk.size
    have h := unify_any 400 400 (fun b => b < X.heap.size) X _ (idS 12) ((HS1.out.keeps hk (fun _ _ h => h)).mono (fun b hb => Nat.lt_of_lt_of_le hb hsx)) (fun b hb => hb) ((HZ.out.keeps HK1.out (fun h => h)).keeps hk (fun h => h)) (by rw [idS_len]; omega) (varT 1) numT (.slice none 0 0) (.slice none 0 0) (varT_ok (wfI_nat (j := 1) (by decide))) num_ok 0 σ0 hu0
    unfold tyV at h
    rw [idS_len] at h
    refine h.mono ?_
    rintro e w' ⟨hb, (⟨h, _⟩ | ⟨_, gt, ct, he, _⟩)⟩
    · exact absurd rfl h
    · exact ⟨⟨gt, ct, by rw [he, hl0]⟩, Keeps.of_below (X := fun _ => False) hb⟩
  have HU1 := Lib.hid (HU0.out w2 hk2)
  have HK2 := Lib.hid hk2
  clear hk2 hu0 hl0 HU0
  go_wp2_with fail
  refine HU1.out.mono ?_
  rintro e w3 ⟨⟨gt, ct, rfl⟩, hk3⟩
  have HK3 := Lib.hid ((HK1.out.trans HK2.out (fun _ _ h => h)).trans hk3 (fun _ _ h => h))
  have HS3 := Lib.hid ((HS1.out.keeps HK2.out (fun _ _ h => h)).keeps hk3 (fun _ _ h => h))
  have hw13 : w1.heap.size ≤ w3.heap.size := by have := HK2.out.size; have := hk3.size; omega
  obtain ⟨B, hB⟩ : ∃ B, w3.heap.size = B := ⟨_, rfl⟩
  have HB := Lib.hid hB
  have HCl := Lib.hid (tyClone (idS 12) _ _ w3 HS3.out (fun b hb => Nat.lt_of_lt_of_le hb hw13) (by rw [idS_len]; decide))
  clear hk3 hB HU1
  go_wp2_with fail
  rw [idS_len] at HCl
  refine HCl.out.mono ?_
  rintro e w4 ⟨v', xs, rfl, hown, hx, hb4⟩
  obtain ⟨g, cap, cur, rfl, hbg, hgc, hnc, hcm', hcs, hct⟩ : ∃ g cap cur, v' = .slice (some ⟨g, 0, none⟩) 12 cap ∧ w3.heap.size ≤ g ∧ w4.heap[g]? = some (.cells cur 45 (0, 0)) ∧ 12 ≤ cap ∧ cap ≤ maxLen ∧ cur.size = cap * 4 ∧ cur.toList.take (12 * 4) = xs := by
    rw [idS_len] at hown
    rcases hown.2 with ⟨_, h⟩ | h
    · omega
    · exact h
  have hO4 : Own4 (· < w3.heap.size) w4 g cap (idS 12) :=
    ⟨⟨cur.toList, by unfold Blk; rw [hgc], by rw [idS_len]; exact hnc, hcm', by rw [Array.length_toList, hcs], by rw [idS_len, hct]; exact (RpAll.mono hx (fun b hb => Nat.lt_of_lt_of_le hb hw13))⟩, fun h => by have h2 : g < w3.heap.size := h; omega⟩
  have hz34 := hb4.size
  have HO4 := Lib.hid hO4
  have HK34 := Lib.hid (Keeps.of_below (X := fun _ => False) hb4)
  have HW13 := Lib.hid hw13
  have HK4 := Lib.hid (HK3.out.trans (Keeps.of_below (X := fun _ => False) hb4) (fun _ _ h => h))
  have hgB : B ≤ g := by have := HB.out; omega
  have hw3B : w3.heap.size = B := HB.out
  rw [hw3B] at HO4
  have hWB : W0.heap.size ≤ B := by have := HK3.out.size; omega
  have HGB := Lib.hid hgB
  have HWB := Lib.hid hWB
  clear hown hx hb4 hbg hgc hnc hcm' hcs hct hO4 hz34 hgB hw3B hWB HCl hw13
  go_wp2_with fail
  go_loopw [44] (fun i wr => ∃ (j : Nat) (σ : List Ty), j ≤ L.length ∧ .int .i64 (j : Int) = i ∧ σ.length = 12 ∧ Own4 (· < B) wr g cap σ ∧ Keeps (· = g) w4 wr) (fun i _ => L.length - (intOf i).toNat)
  case atStart => exact ⟨0, idS 12, Nat.zero_le _, rfl, idS_len 12, HO4.out, Keeps.refl _ _⟩
  case round =>
    clear HO4
    obtain ⟨j, σ, hj, rfl, hl, ho, hkr⟩ := hrel
    obtain ⟨wx, hwx⟩ : ∃ wx, wx = wr := ⟨_, rfl⟩
    rw [← hwx] at ho hkr ⊢
    clear hwx
    have hj0 : (0 : Int) ≤ (j : Int) := by omega
    have HO := Lib.hid ho
    have HKR := Lib.hid hkr
    have HLn := Lib.hid hl
    by_cases hlt : j < L.length
    · have kz : (j : Int) < (L.length : Int) := by omega
      obtain ⟨gx, offx, vx, hadr, hgx, x0, x1, x2, x3, hTx⟩ := tyD.get ((HL.out.keeps HK4.out (fun _ _ h => h)).keeps hkr (fun i hi e => by have := HGB.out; have := HWB.out; have hi2 : i < W0.heap.size := hi; omega)) hlt
      obtain rfl := hadr
      obtain ⟨x, hx⟩ : ∃ x, L[j] = x := ⟨_, rfl⟩
      rw [hx] at x0 x1 x2 hTx
      obtain ⟨Ax, cx, rfl, _⟩ := hTx.form
      have HTx := Lib.hid (hTx.mono (fun b hb => Nat.lt_of_lt_of_le hb HWB.out) : TyC wx (· < B) x _)
      have hgl := ho.lt
      clear hl ho hkr hTx hx hgx
      by_cases h12 : j < 12
      · have k12 : (j : Int) < 12 := by omega
        obtain ⟨q, qv, q0, q1, q2, q3⟩ := HO.out.cells (v := j) (by rw [HLn.out]; exact h12)
        have f0 := HO.out.free (j * 4)
        have f1 := HO.out.free (j * 4 + 1)
        have f2 := HO.out.free (j * 4 + 2)
        have f3 := HO.out.free (j * 4 + 3)
        go_wp2_with fail
        obtain ⟨hO2, hK2⟩ := HO.out.set HTx.out (by rw [HLn.out]; exact h12)
        go_roundw
        case rel => exact ⟨j + 1, σ.set j x, by omega, by go_num, by rw [List.length_set]; exact HLn.out, hO2.keeps ((Keeps.refl (fun _ => False) _).alloc _) (fun h => h) (fun _ _ h => h), (HKR.out.trans hK2 (fun _ _ h => h)).alloc _⟩
        case measure => simp [intOf]; omega
      · have k12 : ¬ (j : Int) < 12 := by omega
        go_wp2_with fail
        go_roundw
        case rel => exact ⟨j + 1, σ, by omega, by go_num, HLn.out, HO.out.keeps ((Keeps.refl (fun _ => False) _).alloc _) (fun h => h) (fun _ _ h => h), HKR.out.alloc _⟩
        case measure => simp [intOf]; omega
    · have kz : ¬ (j : Int) < (L.length : Int) := by omega
      obtain rfl : j = L.length := by omega
      clear hl ho hkr kz
      go_wp2_with fail
      have hlk : (L.length : Int) ≤ 9223372036854775807 := by omega
      have hkk : (0 : Int) ≤ (L.length : Int) := by omega
      clear hj
      go_loopw [12] (fun i wr => ∃ (j : Nat) (σ : List Ty), .int .i64 (j : Int) = i ∧ σ.length = 12 ∧ Own4 (· < B) wr g cap σ ∧ Keeps (· = g) w4 wr) (fun i _ => 12 - (intOf i).toNat)
      case atStart => exact ⟨L.length, σ, rfl, HLn.out, HO.out, HKR.out⟩
      case round =>
        clear HO HKR HLn hlk hkk hj0
        clear σ
        obtain ⟨j, σ, rfl, hl, ho, hkr⟩ := hrel
        obtain ⟨wy, hwy⟩ : ∃ wy, wy = wr := ⟨_, rfl⟩
        rw [← hwy] at ho hkr ⊢
        clear hwy
        have hj0 : (0 : Int) ≤ (j : Int) := by omega
        have HO := Lib.hid ho
        have HKR := Lib.hid hkr
        have HLn := Lib.hid hl
        clear hl ho hkr
        by_cases h12 : j < 12
        · have k12 : (j : Int) < 12 := by omega
          have HNum : Hid (Calls Tryd.prog 28 #[] wy (fun e w' => e = .returned (.agg #[.int .i64 1, .string ⟨#[80, 114, 101, 108, 117, 100, 101, 46, 73, 110, 116]⟩, .int .i64 0, .slice none 0 0]) ∧ Keeps (fun _ => False) wy w')) := num_any wy
          go_wp2_with fail
          with_reducible refine HNum.out.mono ?_
          rintro e wz ⟨rfl, hkz⟩
          have ho := HO.out.keeps hkz (fun h => h) (fun _ _ h => h)
          obtain ⟨q, qv, q0, q1, q2, q3⟩ := ho.cells (v := j) (by rw [HLn.out]; exact h12)
          have f0 := ho.free (j * 4)
          have f1 := ho.free (j * 4 + 1)
          have f2 := ho.free (j * 4 + 2)
          have f3 := ho.free (j * 4 + 3)
          have HO2 := Lib.hid ho
          have HKZ := Lib.hid hkz
          clear ho hkz
          go_wp2_with fail
          obtain ⟨hO2, hK2⟩ := HO2.out.set (t := numT) num_ok (by rw [HLn.out]; exact h12)
          go_roundw
          case rel => exact ⟨j + 1, σ.set j numT, by go_num, by rw [List.length_set]; exact HLn.out, hO2, (HKR.out.trans HKZ.out (fun _ _ h => h.elim)).trans hK2 (fun _ _ h => h)⟩
          case measure => simp [intOf]; omega
        · have k12 : ¬ (j : Int) < 12 := by omega
          go_wp2_with fail
          have hkA : Keeps (fun i => B ≤ i) W0 wy := (HK4.out.mono (Y := fun i => B ≤ i) (fun _ _ h => h.elim)).trans HKR.out (fun i _ h => by have := HGB.out; have h2 : i = g := h; omega)
          have hsA := hkA.size
          have hB0 := (HA3.out).lt
          have hAy := HA3.out.keeps hkA (by have := HWB.out; omega)
          have hTy : TyC wy (fun b => b < wy.heap.size) a _ := (HTa.out.keeps hkA (fun i hi h => by have := HWB.out; have hi2 : i < W0.heap.size := hi; omega)).mono (fun b hb => Nat.lt_of_lt_of_le hb hsA)
          have hZy := HZ.out.keeps hkA (fun h => by have := block_lt_of_cell HZ.out.c0; have := HWB.out; dsimp at *; omega)
          have hSy : Sl wy (fun b => b < wy.heap.size) tyD (idS 12) (.slice As (idS 12).length cs) := ((HS3.out.keeps HK34.out (fun _ _ h => h)).keeps HKR.out (fun i hi e => by have := HGB.out; have := HW13.out; have := HB.out; have hi2 : i < w1.heap.size := hi; omega)).mono (fun b hb => by have := HW13.out; have := HB.out; have := HGB.out; have := HO.out.lt; omega)
          have hGy := HO.out.lt
          have hOy := HO.out.sl (fun b hb => by have := HGB.out; have hb2 : b < B := hb; omega)
          rw [HLn.out] at hOy
          have HKY := Lib.hid ((HK0.out.mono (Y := fun i => b0 ≤ i) (fun _ _ h => h.elim)).trans hkA (fun i _ h => by have h2 : B ≤ i := h; have := HWB.out; have := HK0.out.size; have := HB0.out; omega))
          obtain ⟨k, r, hr, hf⟩ := subC_total σ
          obtain ⟨rc, hrc⟩ : ∃ rc, (chk a 4096 false 1).1 = rc := ⟨_, rfl⟩
          have HCS : Hid (∀ X, Keeps (fun _ => False) wy X → Calls Tryd.prog 39 #[.slice (some ⟨g, 0, none⟩) 12 cap] X (fun e w' => e = .returned (.int .i64 r) ∧ Keeps (fun _ => False) wy w')) := fun X hk =>
            (by have h := subst_any σ k _ _ X (hOy.keeps hk (fun _ _ h => h)) (fun b hb => Nat.lt_of_lt_of_le hb hk.size) (hZy.keeps hk (fun h => h)) r hr
                exact h.mono fun e w' ⟨he, hb⟩ => ⟨he, hk.trans (Keeps.of_below (X := fun _ => False) hb) (fun _ _ h => h)⟩)
          have HCK : Hid (∀ X, Keeps (fun _ => False) wy X → Calls Tryd.prog 23 #[.agg #[.int .i64 a.kind, .string a.name, .int .i64 a.var, .slice A a.args.length c]] X (fun e w' => e = .returned (.int .i64 rc) ∧ Keeps (fun _ => False) wy w')) := fun X hk =>
            (check_any a X _ _ (hTy.keeps hk (fun _ _ h => h)) (fun b hb => Nat.lt_of_lt_of_le hb hk.size) (hZy.keeps hk (fun h => h))).mono fun e w' ⟨he, hb⟩ => ⟨by rw [he, hrc], hk.trans (Keeps.of_below (X := fun _ => False) hb) (fun _ _ h => h)⟩
          have HAy := Lib.hid hAy
          have HTy := Lib.hid hTy
          have HZy := Lib.hid hZy
          have HSy := Lib.hid hSy
          have HOy := Lib.hid hOy
          have HRC := Lib.hid hrc
          have HF := Lib.hid hf
          clear hkA hsA hB0 hAy hTy hZy hSy hOy hr hf hrc hGy k12 hj0 HS1 HS3 HTa HZ HA3 HO HKR HK34 HK1 HK2 HK3 HL
          by_cases h1 : r = 0
          · have h1b : (r != 0) = false := by rw [h1]; rfl
            have HFi := Lib.hid (HF.out h1)
            clear h1 HF
            with_reducible refine (HCS.out _ (Keeps.refl _ _)).mono ?_
            rintro e w5 ⟨rfl, hk5⟩
            have hA5 := HAy.out.keeps hk5 (fun h => h)
            have a0 := hA5.cell (i := 0) rfl
            have a1 := hA5.cell (i := 1) rfl
            have a2 := hA5.cell (i := 2) rfl
            have a3 := hA5.cell (i := 3) rfl
            have HK5 := Lib.hid hk5
            clear hA5 hk5
            by_cases h2 : rc = 0
            · have h2b : (rc != 0) = false := by rw [h2]; rfl
              have hc0 : (chk a 4096 false 1).1 = 0 := HRC.out.trans h2
              have HC0 := Lib.hid hc0
              clear h2 hc0
              go_wp2_with fail
              with_reducible refine (HCK.out _ HK5.out).mono ?_
              rintro e w6 ⟨rfl, hk6⟩
              have hA6 := HAy.out.keeps hk6 (fun h => h)
              clear a0 a1 a2 a3
              have a0 := hA6.cell (i := 0) rfl
              have a1 := hA6.cell (i := 1) rfl
              have a2 := hA6.cell (i := 2) rfl
              have a3 := hA6.cell (i := 3) rfl
              have HK6 := Lib.hid hk6
              clear hA6 hk6
              obtain ⟨x, hx⟩ : ∃ x, subT (appV σ) a = x := ⟨_, rfl⟩
              have hen := (apply_fine HFi.out (chk_wf a _ _ _ HC0.out)).1
              rw [hx] at hen
              obtain ⟨K, hK⟩ := hen
              have hKK := hK K (Nat.le_refl _) K (Nat.le_refl _)
              have han : nodes a ≤ 4096 := by have := (chk_fine a _ _ _ HC0.out).1; have := (chk_bound a 4096 false 1).2 HC0.out; omega
              have HAP : Hid (∀ X, Keeps (fun _ => False) wy X → Calls Tryd.prog 33 #[.slice (some ⟨g, 0, none⟩) 12 cap, .agg #[.int .i64 a.kind, .string a.name, .int .i64 a.var, .slice A a.args.length c]] X (fun e w' => ∃ Ax cx, e = .returned (.agg #[.int .i64 x.kind, .string x.name, .int .i64 x.var, .slice Ax x.args.length cx]) ∧ TyC w' (fun b => b < w'.heap.size) x (.slice Ax x.args.length cx) ∧ Keeps (fun _ => False) wy w')) := fun X hk =>
                (apply_any σ (fun t ht => ⟨(fine_wf HFi.out t ht).1, by have := (fine_wf HFi.out t ht).2; omega⟩) K K X (fun b => b < wy.heap.size) _ _ a x (HOy.out.keeps hk (fun _ _ h => h)) (HTy.out.keeps hk (fun _ _ h => h)) (fun b hb => Nat.lt_of_lt_of_le hb hk.size) (chk_wf a _ _ _ HC0.out) (by omega) hKK).mono
                  fun e w' ⟨A, c, he, hT, hkk⟩ => ⟨A, c, he, hT.mono (fun b hb => hb.2), hk.trans hkk (fun _ _ h => h)⟩
              have HX := Lib.hid hx
              clear hx hK hKK han
              go_wp2_with fail
              with_reducible refine (HAP.out _ HK6.out).mono ?_
              rintro e w7 ⟨Ax, cx, rfl, hTx, hk7⟩
              obtain ⟨b8, hb8⟩ : ∃ b8, w7.heap.size = b8 := ⟨_, rfl⟩
              obtain ⟨W8, hW8⟩ : ∃ W8, w7.alloc (.cells #[.int .i64 x.kind, .string x.name, .int .i64 x.var, .slice Ax x.args.length cx] 45) = W8 := ⟨_, rfl⟩
              have hk78 : Keeps (fun _ => False) w7 W8 := by rw [← hW8]; exact (Keeps.refl _ _).alloc _
              have hX8 : Blk W8 b8 45 [.int .i64 x.kind, .string x.name, .int .i64 x.var, .slice Ax x.args.length cx] := by rw [← hW8, ← hb8]; exact Blk.new w7 _ [_, _, _, _]
              have hs78 := hk78.size
              have hk8 := hk7.trans hk78 (fun _ _ h => h)
              have hs8 := hk8.size
              have hT8 : TyC W8 (fun b => b < W8.heap.size) x _ := (hTx.keeps hk78 (fun _ _ h => h)).mono (fun b hb => Nat.lt_of_lt_of_le hb hs78)
              have hTa8 : TyC W8 (fun b => b < W8.heap.size) a _ := (HTy.out.keeps hk8 (fun _ _ h => h)).mono (fun b hb => Nat.lt_of_lt_of_le hb hs8)
              have hS8 : Sl W8 (fun b => b < W8.heap.size) tyD (idS 12) _ := (HSy.out.keeps hk8 (fun _ _ h => h)).mono (fun b hb => Nat.lt_of_lt_of_le hb hs8)
              have hZ8 := HZy.out.keeps hk8 (fun h => h)
              have hA8 := HAy.out.keeps hk8 (fun h => h)
              have HK8 := Lib.hid (HKY.out.trans hk8 (fun _ _ h => h.elim))
              obtain ⟨rx, hrx⟩ : ∃ rx, (chk x 4096 false 1).1 = rx := ⟨_, rfl⟩
              obtain ⟨fl, hfl⟩ : ∃ fl, (freeP x).length = fl := ⟨_, rfl⟩
              have HCX : Hid (∀ X, Keeps (fun _ => False) W8 X → Calls Tryd.prog 23 #[.agg #[.int .i64 x.kind, .string x.name, .int .i64 x.var, .slice Ax x.args.length cx]] X (fun e w' => e = .returned (.int .i64 rx) ∧ Keeps (fun _ => False) W8 w')) := fun X hk =>
                (check_any x X _ _ (hT8.keeps hk (fun _ _ h => h)) (fun b hb => Nat.lt_of_lt_of_le hb hk.size) (hZ8.keeps hk (fun h => h))).mono fun e w' ⟨he, hb⟩ => ⟨by rw [he, hrx], hk.trans (Keeps.of_below (X := fun _ => False) hb) (fun _ _ h => h)⟩
              have HFX : Hid (nodes x ≤ 4096 → ∀ X, Keeps (fun _ => False) W8 X → Calls Tryd.prog 25 #[.agg #[.int .i64 x.kind, .string x.name, .int .i64 x.var, .slice Ax x.args.length cx]] X (fun e w' => (∃ B d, e = .returned (.slice B fl d)) ∧ Keeps (fun _ => False) W8 w')) := fun hn X hk =>
                (free_any x X _ _ (hT8.keeps hk (fun _ _ h => h)) (by omega)).mono fun e w' ⟨u, he, hb, hS⟩ => by
                  obtain ⟨B, d, rfl, _⟩ := hS.form
                  rw [hfl] at he
                  exact ⟨⟨B, d, he⟩, hk.trans (Keeps.of_below (X := fun _ => False) hb) (fun _ _ h => h)⟩
              have HT8 := Lib.hid hT8
              have HTa8 := Lib.hid hTa8
              have HS8 := Lib.hid hS8
              have HZ8 := Lib.hid hZ8
              have HA8 := Lib.hid hA8
              have HX8 := Lib.hid hX8
              have HW8 := Lib.hid hW8
              have HB8 := Lib.hid hb8
              have HRX := Lib.hid hrx
              have HFL := Lib.hid hfl
              have x0 := hX8.cell (i := 0) rfl
              have x1 := hX8.cell (i := 1) rfl
              have x2 := hX8.cell (i := 2) rfl
              have x3 := hX8.cell (i := 3) rfl
              clear hb8 hW8 hk78 hX8 hs78 hk8 hs8 hT8 hTa8 hS8 hZ8 hA8 hrx hfl hTx hk7 a0 a1 a2 a3 HAP HCK HCS HK6 HK5 HAy HTy HSy HOy HZy HKY
              by_cases h3 : rx = 0
              · have h3b : (rx != 0) = false := by rw [h3]; rfl
                have hx0 : (chk x 4096 false 1).1 = 0 := HRX.out.trans h3
                have hxn : nodes x ≤ 4096 := by have := (chk_fine x _ _ _ hx0).1; have := (chk_bound x 4096 false 1).2 hx0; omega
                have HX0 := Lib.hid hx0
                have HFX2 := Lib.hid (HFX.out hxn)
                clear h3 hx0 hxn HFX
                go_wp2_with fail
                rw [HW8.out, HB8.out]
                go_wp2_with fail
                with_reducible refine (HCX.out _ (Keeps.refl _ _)).mono ?_
                rintro e w9 ⟨rfl, hk9⟩
                have hx9 := HX8.out.keeps hk9 (fun h => h)
                clear x0 x1 x2 x3
                have x0 := hx9.cell (i := 0) rfl
                have x1 := hx9.cell (i := 1) rfl
                have x2 := hx9.cell (i := 2) rfl
                have x3 := hx9.cell (i := 3) rfl
                have HK9 := Lib.hid hk9
                clear hx9 hk9
                by_cases h4 : fl = 0
                · have h4b : ¬ (0 : Int) < (fl : Int) := by omega
                  have hf0 : freeP x = [] := List.eq_nil_of_length_eq_zero (HFL.out.trans h4)
                  have HF0 := Lib.hid hf0
                  clear h4 hf0
                  go_wp2_with fail
                  with_reducible refine (HFX2.out _ HK9.out).mono ?_
                  rintro e wf ⟨⟨Bf, df, rfl⟩, hkf⟩
                  have haf := HA8.out.keeps hkf (fun h => h)
                  have hxf := HX8.out.keeps hkf (fun h => h)
                  clear x0 x1 x2 x3
                  have x0 := hxf.cell (i := 0) rfl
                  have x1 := hxf.cell (i := 1) rfl
                  have x2 := hxf.cell (i := 2) rfl
                  have x3 := hxf.cell (i := 3) rfl
                  have a0 := haf.cell (i := 0) rfl
                  have a1 := haf.cell (i := 1) rfl
                  have a2 := haf.cell (i := 2) rfl
                  have a3 := haf.cell (i := 3) rfl
                  obtain ⟨hli, hlw⟩ : σ.length = 12 ∧ Fine σ := ⟨HLn.out, HFi.out⟩
                  obtain ⟨K, σ', y, hu1, hy1, hwσ, hl', hny, hyw, hyn⟩ := inst_law hlw hli HC0.out (by rw [HX.out]; exact HX0.out) (by rw [HX.out]; exact HF0.out)
                  rw [HX.out] at hu1 hny
                  have hxw := chk_wf x _ _ _ HX0.out
                  have hxn : nodes x ≤ 4096 := by have := (chk_fine x _ _ _ HX0.out).1; have := (chk_bound x 4096 false 1).2 HX0.out; omega
                  have haw := chk_wf a _ _ _ HC0.out
                  have han : nodes a ≤ 4096 := by have := (chk_fine a _ _ _ HC0.out).1; have := (chk_bound a 4096 false 1).2 HC0.out; omega
                  have HU2 : Hid (∀ X, Keeps (fun _ => False) W8 X → Calls Tryd.prog 21 #[.slice As 12 cs, .agg #[.int .i64 a.kind, .string a.name, .int .i64 a.var, .slice A a.args.length c], .agg #[.int .i64 x.kind, .string x.name, .int .i64 x.var, .slice Ax x.args.length cx]] X (fun e w' => (∃ g2 c2, e = .returned (.tuple #[.slice (some ⟨g2, 0, none⟩) 12 c2, .int .i64 0]) ∧ Sl w' (fun b => b < w'.heap.size) tyD σ' (.slice (some ⟨g2, 0, none⟩) 12 c2)) ∧ Keeps (fun _ => False) W8 w')) := fun X hk => by
                    have hsx := hk.size
                    have h := unify_any K K (fun b => b < X.heap.size) X _ (idS 12) ((HS8.out.keeps hk (fun _ _ h => h)).mono (fun b hb => Nat.lt_of_lt_of_le hb hsx)) (fun b hb => hb) (HZ8.out.keeps hk (fun h => h)) (by rw [idS_len]; omega) a x _ _ ((HTa8.out.keeps hk (fun _ _ h => h)).mono (fun b hb => Nat.lt_of_lt_of_le hb hsx)) ((HT8.out.keeps hk (fun _ _ h => h)).mono (fun b hb => Nat.lt_of_lt_of_le hb hsx)) 0 σ' hu1
                    unfold tyV at h
                    rw [idS_len] at h
                    refine h.mono ?_
                    rintro e w' ⟨hb, (⟨h, _⟩ | ⟨_, g2, c2, he, hS⟩)⟩
                    · exact absurd rfl h
                    · rw [hl'] at he hS
                      have hsb := hb.size
                      exact ⟨⟨g2, c2, he, hS.mono (fun b hb => by rcases hb with h | h <;> omega)⟩, hk.trans (Keeps.of_below (X := fun _ => False) hb) (fun _ _ h => h)⟩
                  have HAP2 : Hid (∀ V g2 c2, Keeps (fun _ => False) W8 V → Sl V (fun b => b < V.heap.size) tyD σ' (.slice (some ⟨g2, 0, none⟩) 12 c2) → ∀ X, Keeps (fun _ => False) V X → Calls Tryd.prog 33 #[.slice (some ⟨g2, 0, none⟩) 12 c2, .agg #[.int .i64 a.kind, .string a.name, .int .i64 a.var, .slice A a.args.length c]] X (fun e w' => ∃ Ay cy, e = .returned (.agg #[.int .i64 y.kind, .string y.name, .int .i64 y.var, .slice Ay y.args.length cy]) ∧ TyC w' (fun b => b < w'.heap.size) y (.slice Ay y.args.length cy) ∧ Keeps (fun _ => False) V w')) := fun V g2 c2 hv hS X hk => by
                    have hsx := hk.size
                    have hdx := hv.trans hk (fun _ _ h => h)
                    have hsd := hdx.size
                    exact (apply_any σ' (fun t ht => ⟨(hwσ t ht).1, by have := (hwσ t ht).2; omega⟩) K K X (fun b => b < X.heap.size) _ _ a y ((hS.keeps hk (fun _ _ h => h)).mono (fun b hb => Nat.lt_of_lt_of_le hb hsx)) ((HTa8.out.keeps hdx (fun _ _ h => h)).mono (fun b hb => Nat.lt_of_lt_of_le hb hsd)) (fun b hb => hb) haw (by omega) hy1).mono
                      fun e w' ⟨A, c, he, hT, hkk⟩ => ⟨A, c, he, hT.mono (fun b hb => hb.2), hk.trans hkk (fun _ _ h => h)⟩
                  have HSM : Hid (∀ V Y Ay cy, Keeps (fun _ => False) W8 V → Keeps (fun _ => False) V Y → TyC Y (fun b => b < Y.heap.size) y (.slice Ay y.args.length cy) → ∀ X, Keeps (fun _ => False) Y X → Calls Tryd.prog 31 #[.agg #[.int .i64 y.kind, .string y.name, .int .i64 y.var, .slice Ay y.args.length cy], .agg #[.int .i64 x.kind, .string x.name, .int .i64 x.var, .slice Ax x.args.length cx]] X (fun e w' => e = .returned (.bool true) ∧ Keeps (fun _ => False) V w')) := fun V Y Ay cy hv hvy hT X hk => by
                    have hsx := hk.size
                    have hvx := hvy.trans hk (fun _ _ h => h)
                    have hdx := hv.trans hvx (fun _ _ h => h)
                    have hsd := hdx.size
                    exact (same_any y x X (fun b => b < X.heap.size) _ _ ((hT.keeps hk (fun _ _ h => h)).mono (fun b hb => Nat.lt_of_lt_of_le hb hsx)) ((HT8.out.keeps hdx (fun _ _ h => h)).mono (fun b hb => Nat.lt_of_lt_of_le hb hsd)) (fun b hb => hb) hyw.nok hxw.nok (by omega) (by omega)).mono
                      fun e w' ⟨he, hb⟩ => ⟨by rw [he, hny, eqT_refl], hvx.trans (Keeps.of_below (X := fun _ => False) hb) (fun _ _ h => h)⟩
                  have HQ : Hid (∀ V, Keeps (fun _ => False) W8 V → ∀ X, Keeps (fun _ => False) V X → (X.cell? ⟨b0, 0, none⟩ = some (.int .i64 a.kind) ∧ X.cell? ⟨b0, 1, none⟩ = some (.string a.name) ∧ X.cell? ⟨b0, 2, none⟩ = some (.int .i64 a.var) ∧ X.cell? ⟨b0, 3, none⟩ = some (.slice A a.args.length c) ∧ X.cell? ⟨b8, 0, none⟩ = some (.int .i64 x.kind) ∧ X.cell? ⟨b8, 1, none⟩ = some (.string x.name) ∧ X.cell? ⟨b8, 2, none⟩ = some (.int .i64 x.var) ∧ X.cell? ⟨b8, 3, none⟩ = some (.slice Ax x.args.length cx))) := fun V hv X hk => by
                    have hdx := hv.trans hk (fun _ _ h => h)
                    exact ⟨hdx.cell (HA8.out.cell (i := 0) rfl) (fun h => h), hdx.cell (HA8.out.cell (i := 1) rfl) (fun h => h), hdx.cell (HA8.out.cell (i := 2) rfl) (fun h => h), hdx.cell (HA8.out.cell (i := 3) rfl) (fun h => h), hdx.cell (HX8.out.cell (i := 0) rfl) (fun h => h), hdx.cell (HX8.out.cell (i := 1) rfl) (fun h => h), hdx.cell (HX8.out.cell (i := 2) rfl) (fun h => h), hdx.cell (HX8.out.cell (i := 3) rfl) (fun h => h)⟩
                  have HKF := Lib.hid hkf
                  clear hkf haf hxf hli hlw hu1 hy1 hwσ hl' hny hyw hyn hxw hxn haw han
                  go_wp2_with fail
                  with_reducible refine (HU2.out _ HKF.out).mono ?_
                  rintro e wu ⟨⟨g2, c2, rfl, hSu⟩, hku⟩
                  have HAPu := Lib.hid (HAP2.out wu g2 c2 hku hSu)
                  have HSMu := Lib.hid (fun Y Ay cy => HSM.out wu Y Ay cy hku)
                  have HQu := Lib.hid (HQ.out wu hku)
                  have HKu := Lib.hid hku
                  clear hSu hku HU2 HAP2 HSM HQ x0 x1 x2 x3 a0 a1 a2 a3
                  go_wp2_with fail
                  go_region_held3 (fun X => X.cell? ⟨b0, 0, none⟩ = some (.int .i64 a.kind) ∧ X.cell? ⟨b0, 1, none⟩ = some (.string a.name) ∧ X.cell? ⟨b0, 2, none⟩ = some (.int .i64 a.var) ∧ X.cell? ⟨b0, 3, none⟩ = some (.slice A a.args.length c) ∧ X.cell? ⟨b8, 0, none⟩ = some (.int .i64 x.kind) ∧ X.cell? ⟨b8, 1, none⟩ = some (.string x.name) ∧ X.cell? ⟨b8, 2, none⟩ = some (.int .i64 x.var) ∧ X.cell? ⟨b8, 3, none⟩ = some (.slice Ax x.args.length cx))
                    (exact HQu.out _ (by repeat (first | (with_reducible assumption) | (with_reducible exact Keeps.refl _ _) | (with_reducible refine Keeps.drewN ?_ _) | (with_reducible refine Keeps.drew ?_) | with_reducible refine Keeps.setCell ?_ (by first | (intro _; exact rfl) | (intro _; exact Or.inl rfl) | (intro _; exact Or.inr rfl) | (simp; done) | (simp; omega)) _ | (with_reducible refine Keeps.alloc ?_ _))))
                    (first
                      | (go_at_call 33; with_reducible refine (HAPu.out _ (by repeat (first | (with_reducible assumption) | (with_reducible exact Keeps.refl _ _) | (with_reducible refine Keeps.drewN ?_ _) | (with_reducible refine Keeps.drew ?_) | with_reducible refine Keeps.setCell ?_ (by first | (intro _; exact rfl) | (intro _; exact Or.inl rfl) | (intro _; exact Or.inr rfl) | (simp; done) | (simp; omega)) _ | (with_reducible refine Keeps.alloc ?_ _)))).mono ?_; rintro e wa ⟨Ay, cy, rfl, hTy, hka⟩)
                      | (go_at_call 31; with_reducible refine (HSMu.out _ _ _ hka hTy _ (by repeat (first | (with_reducible assumption) | (with_reducible exact Keeps.refl _ _) | (with_reducible refine Keeps.drewN ?_ _) | (with_reducible refine Keeps.drew ?_) | with_reducible refine Keeps.setCell ?_ (by first | (intro _; exact rfl) | (intro _; exact Or.inl rfl) | (intro _; exact Or.inr rfl) | (simp; done) | (simp; omega)) _ | (with_reducible refine Keeps.alloc ?_ _)))).mono ?_; rintro e wb ⟨rfl, hkb⟩))
                  all_goals go_wp2_with fail
                  all_goals go_ret
                  all_goals exact ⟨rfl, ((HK8.out.trans HKu.out (fun _ _ h => h.elim)).trans (show Keeps (fun _ => False) wu _ from (by repeat (first | (with_reducible assumption) | (with_reducible exact Keeps.refl _ _) | (with_reducible refine Keeps.drewN ?_ _) | (with_reducible refine Keeps.drew ?_) | with_reducible refine Keeps.setCell ?_ (by first | (intro _; exact rfl) | (intro _; exact Or.inl rfl) | (intro _; exact Or.inr rfl) | (simp; done) | (simp; omega)) _ | (with_reducible refine Keeps.alloc ?_ _)))) (fun _ _ h => h.elim)).below (fun i hi => by have := HB0.out; omega) (Nat.le_refl _)⟩
                · have h4b : (0 : Int) < (fl : Int) := by omega
                  clear h4
                  go_wp2_with fail
                  with_reducible refine (HFX2.out _ HK9.out).mono ?_
                  rintro e wf ⟨⟨Bf, df, rfl⟩, hkf⟩
                  go_wp2_with fail
                  go_ret
                  exact ⟨rfl, (HK8.out.trans hkf (fun _ _ h => h.elim)).below (fun i hi => by have := HB0.out; omega) (Nat.le_refl _)⟩
              · have h3b : (rx != 0) = true := by rw [bne_iff_ne]; exact h3
                clear h3 HFX
                go_wp2_with fail
                rw [HW8.out, HB8.out]
                go_wp2_with fail
                with_reducible refine (HCX.out _ (Keeps.refl _ _)).mono ?_
                rintro e w9 ⟨rfl, hk9⟩
                go_wp2_with fail
                go_ret
                exact ⟨rfl, (HK8.out.trans hk9 (fun _ _ h => h.elim)).below (fun i hi => by have := HB0.out; omega) (Nat.le_refl _)⟩
            · have h2b : (rc != 0) = true := by rw [bne_iff_ne]; exact h2
              clear h2
              go_wp2_with fail
              with_reducible refine (HCK.out _ HK5.out).mono ?_
              rintro e w6 ⟨rfl, hk6⟩
              go_wp2_with fail
              go_ret
              exact ⟨rfl, (HKY.out.trans hk6 (fun _ _ h => h.elim)).below (fun i hi => by have := HB0.out; omega) (Nat.le_refl _)⟩
          · have h1b : (r != 0) = true := by rw [bne_iff_ne]; exact h1
            clear h1
            with_reducible refine (HCS.out _ (Keeps.refl _ _)).mono ?_
            rintro e w5 ⟨rfl, hk5⟩
            go_wp2_with fail
            go_ret
            exact ⟨rfl, (HKY.out.trans hk5 (fun _ _ h => h.elim)).below (fun i hi => by have := HB0.out; omega) (Nat.le_refl _)⟩

theorem own : ownKnob Tryd.prog.godebug = none := by kernel_rfl
theorem gSizes : Tryd.prog.globalNamed "provenance/unify.sizes" = some 0 := by kernel_rfl
theorem szs_of_laid {W : World} (h : laidMetH Tryd.prog Rows.unifyInstancesRow.laid W) : Szs W := by
  have h2 : laidMetH Tryd.prog [("provenance/unify.sizes", Lib.tabData .i64 [0, -1, 3, 1, 0, 2])] W := h
  rw [MakeChecks.laidMetH_plain _ _ _ (by kernel_rfl)] at h2
  have ht := Lib.tabIs_of_head gSizes (by kernel_rfl) Tryd.underlying112 Tryd.underlying3 (by kernel_rfl) (by kernel_rfl) h2
  unfold Lib.TabIs at ht
  exact ⟨by rw [World.var?_cell gSizes ht]; rfl, by rw [World.var?_cell gSizes ht]; rfl, by rw [World.var?_cell gSizes ht]; rfl, by rw [World.var?_cell gSizes ht]; rfl, by rw [World.var?_cell gSizes ht]; rfl, by rw [World.var?_cell gSizes ht]; rfl⟩

theorem laid : laidOutB Tryd.prog = true := by kernel_rfl

set_option maxRecDepth 100000 in
theorem lifted (os : Os) (started : os.Started) (H : Type) (enc : TypeId × Value → H) :
    ReturnsInHanded {} Tryd.checked os 11 .any (fun w args => (Rows.unifyInstancesSpec.pre enc Tryd.prog Tryd.f11 [] false w args ∧ laidMetH Tryd.prog Rows.unifyInstancesRow.laid w) ∧ sizedMet enc Tryd.prog Tryd.f11 (OpenSpec.ofChange Rows.unifyInstancesSpec) false w args)
      (Rows.unifyInstancesSpec.post enc Tryd.prog Tryd.f11 false true false false) := by
  refine handed_shaped_laid (C := Tryd.checked) (L := Rows.unifyInstancesRow.laid) own started (by kernel_rfl) Tryd.func11
    (ChangeSpec.witness_shaped (enc := enc) (C := Tryd.checked) (os := os) (X := fun w _ => laidMetH Tryd.prog Rows.unifyInstancesRow.laid w) false (World.laidAll Tryd.prog os Rows.unifyInstancesRow.laid) #[.agg #[.int .i64 0, .string ⟨#[]⟩, .int .i64 0, .slice none 0 0], .slice none 0 0] 8 (World.laidAll_os _ _ _)
      (World.shaped_of_ZipB (by kernel_rfl) (by kernel_rfl)) (by kernel_rfl) (by kernel_rfl) (by kernel_rfl)
      (by rw [MakeChecks.laidMetH_plain _ _ _ (by kernel_rfl)]; exact laidMet_laidAll _ (by kernel_rfl) (by kernel_rfl))) ?_
  intro W base args ds gs before hval0 hW hsz0 _ hlaid
  have hz := szs_of_laid hlaid
  have hval : ∀ (j : Nat) t v, Tryd.f11.params[j]? = some t → args[j]? = some v → Value.okWide Tryd.prog W .any base t v := hval0
  have hW' := hW
  obtain ⟨p, q, hA0, hV, hbef, hfz, hnd⟩ := hW
  have hA : DataW.TrodAll enc Tryd.prog W 0 (fun _ => true) true Tryd.f11.params.toList args.toList ds p := hA0
  rw [Tryd.params11] at hA hval
  obtain ⟨v0, vs0, d0, ds0, p0, q0, hargs, hds, rfl, h0, r0⟩ := trodAll_cons hA
  obtain ⟨v1, vs1, d1, ds1, p1, q1, rfl, rfl, rfl, h1, r1⟩ := trodAll_cons r0
  obtain ⟨rfl, rfl, rfl⟩ := trodAll_nil r1
  obtain rfl : args = #[v0, v1] := by cases args; simp_all
  obtain ⟨rfl, _⟩ := trodVars_none hV
  subst hds
  obtain ⟨a0, c0, rfl, s0⟩ := rp_of_arg (f := tyD) Tryd.underlying45 (fun _ _ _ h => tyD.of_trod _ h) (hval 0 45 v0 rfl rfl) h0
  obtain ⟨av0, rfl, T0⟩ := tyD.rp.1 s0
  obtain ⟨a1, s1⟩ := sl_of_arg (f := tyD) (k := 4) Tryd.underlying43 (by kernel_rfl) (by decide) (fun _ _ _ h => tyD.of_trod _ h) (hval 1 43 v1 rfl rfl) h1
  refine (walk a0 a1 av0 v1 W T0 s1 hz).mono fun e W' ⟨he, hb⟩ => ?_
  subst he
  exact ⟨_, rfl, law_post laid (by kernel_rfl) rfl Tryd.underlying4 rfl rfl rfl rfl hW' hb⟩

theorem over : Rows.unifyInstancesRow.holds Tryd.pinned (OpenSpec.ofChange Rows.unifyInstancesSpec) :=
  OpenClaim.holds_of_wide 11 Tryd.f11 rfl rfl rfl rfl rfl rfl rfl ⟨rfl, rfl, rfl, rfl, rfl⟩ rfl rfl rfl rfl rfl (by kernel_rfl) Tryd.func11 (by kernel_rfl)
    (of_decide_eq_true (by kernel_rfl)) (by unfold Func.isWrapper; first | (rw [if_pos (by decide +kernel)]; kernel_rfl) | (rw [if_neg (by decide +kernel)]; exact ⟨rfl, rfl⟩))
    (fun os started H enc _ => lifted os started H enc)

theorem proved : Rows.UnifyInstancesCardSaid :=
  Claim7.holds_tied_plain_at .later [] [.data] true Rows.unifyInstancesCard.stood.harness false over (fun _ h => by cases h) (by kernel_rfl) (fun _ h => by cases h) unifyInstances_row_tie rfl ⟨rfl, rfl⟩ (by kernel_rfl) rfl
    (fun f fn hf hfn => by
      obtain rfl : f = 11 := Option.some.inj ((show Tryd.prog.funcNamed Tryd.f11.name = some 11 by kernel_rfl).symm.trans hf) |>.symm
      obtain rfl : fn = Tryd.f11 := (Option.some.inj (Tryd.func11.symm.trans hfn)).symm
      exact ⟨by kernel_rfl, fun j t ht => by
        rw [Tryd.params11] at ht
        have hm : t ∈ [45, 43] := by simpa using Array.mem_of_getElem? ht
        have hall : ([45, 43].all fun u => !Tryd.prog.wantsStandIn u) = true := by kernel_rfl
        exact (show Tryd.prog.wantsStandIn t = false by simpa using List.all_eq_true.1 hall t hm)⟩)
    (by kernel_rfl)
#print axioms proved
end Go.Proofs.YtjofndhbpglfgaaDoor.unifyInstances

