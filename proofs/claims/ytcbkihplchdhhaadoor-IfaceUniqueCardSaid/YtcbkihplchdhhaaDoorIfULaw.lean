/- IfaceUnique, walked: it answers true. -/
import Derived.Test.YtcbkihplchdhhaaDoorIfPre
import Derived.Test.YtcbkihplchdhhaaDoorIfDe
import Derived.Test.YtcbkihplchdhhaaDoorWithin
namespace Go.Proofs.YtcbkihplchdhhaaDoor
open Go.RowKit Go.Shelf

namespace If
theorem check_size {f : Iface} (h : checkP f = 0) : (faceW f).length ≤ 1048576 := by
  unfold checkP at h
  split at h
  · split at h
    · split at h
      · split at h
        · cases h
        · omega
      · cases h
    · cases h
  · rename_i h1
    exact absurd h h1
theorem bstr_of {s : ByteArray} {l : Bs} (h : l = s.data.toList) : bstr l = s := by subst h; unfold bstr; simp
theorem szs_same {w w' : World} (h : Szs w) (hk : Keeps (fun _ => False) w w') : Szs w' := h.keeps hk (fun h => h)
set_option maxRecDepth 100000 in
set_option maxHeartbeats 16000000 in
theorem law_walk (s : ByteArray) (pos by_ : Int) (W : World) (hz : Szs W) :
    Calls Tryd.prog 3 #[.string s, .int .i64 pos, .int .i64 by_] W fun e w' => e = .returned (.bool true) ∧ Below W.heap.size W w' := by
  have HPre := Lib.hid (Prelude_any W hz)
  have HZ := Lib.hid hz
  clear hz
  go_enter Tryd.func3, Tryd.ntmps3
  go_wp2_with fail
  refine HPre.out.mono ?_
  rintro e w1 ⟨⟨cs, rfl, hRp⟩, hb1⟩
  have hk1 : Keeps (fun _ => False) W w1 := Keeps.of_below (X := fun _ => False) hb1
  have HEn := Lib.hid (Encode_ok w1 preF _ cs hRp (fun b hb => hb) (szs_same HZ.out hk1) (by have := pre_size.2; omega) pre_check)
  have HK1 := Lib.hid hk1
  clear hRp hb1 hk1 HPre
  go_wp2_with fail
  refine HEn.out.mono ?_
  rintro e w2 ⟨rfl, hk2⟩
  obtain ⟨p, hp⟩ : ∃ p, bstr (faceW preF) = p := ⟨_, rfl⟩
  have hps : 100 ≤ p.size ∧ p.size ≤ 100000 := by rw [← hp, bstr_size]; exact pre_size
  rw [hp]
  have HK2 : Hid (Keeps (fun _ => False) W w2) := HK1.out.trans hk2 (fun _ _ h => h)
  clear hp hk2 HEn HK1
  obtain ⟨n, hn⟩ : ∃ n, p.size = n := ⟨_, rfl⟩
  rw [hn] at hps
  have k0 : ¬ ((n : Nat) : Int) < 100 := by omega
  obtain ⟨cap, hcap⟩ : ∃ c, grownCap w2 p.size 0 5 = c := ⟨_, rfl⟩
  obtain ⟨g3, hg3⟩ : ∃ g, w2.heap.size = g := ⟨_, rfl⟩
  obtain ⟨w3, hw3⟩ : ∃ w, Go.Lib.bytesWorld w2 5 p = w := ⟨_, rfl⟩
  have hcv := Go.Lib.run_convert_string_bytes (P := Tryd.prog) w2 9 35 5 p Tryd.underlying9 Tryd.underlying35 Tryd.underlying5
  rw [hw3, hg3, hcap, hn] at hcv
  have hcell : ∀ j, j < p.size → w3.cell? ⟨g3, j, none⟩ = some (.int .u8 (p.data.toList.getD j 0).toNat) := fun j hj => by rw [← hw3, ← hg3]; exact Go.Lib.bytesWorld_cell w2 _ p j hj
  have hfz : ∀ j, j < p.size → w3.frozen? ⟨g3, j, none⟩ = false := fun j hj => by
    have h := Go.Lib.bytesWorld_at_new w2 5 p
    rw [hw3, hg3] at h
    unfold World.frozen?
    rw [h]
    have hs : p.size ≤ (Go.Lib.bytesCells w2 5 p).size := by
      unfold Go.Lib.bytesCells
      rw [Array.size_append, Array.size_map]
      have : p.data.size = p.size := rfl
      omega
    have h1 : ¬ ((Go.Lib.bytesCells w2 5 p).size ≤ j) := by omega
    simp [h1]
  have hk3 : Keeps (fun _ => False) w2 w3 := by
    rw [← hw3]
    exact ⟨rfl, rfl, rfl, by rw [Go.Lib.bytesWorld_size]; omega, fun i hi _ => Go.Lib.bytesWorld_at_old _ _ _ _ hi⟩
  -- the place of the patch
  obtain ⟨i1, hi1⟩ : ∃ i, withinI pos 0 ((n : Int) - 1) = i := ⟨_, rfl⟩
  have hi1a : 0 ≤ i1 := by rw [← hi1]; exact withinI_lo pos 0 _ (by omega)
  have hi1b : i1 ≤ (n : Int) - 1 := by rw [← hi1]; exact withinI_hi pos 0 _ (by omega)
  obtain ⟨j1, hj1⟩ : ∃ j : Nat, i1 = (j : Int) := ⟨i1.toNat, by omega⟩
  subst hj1
  have hj1n : j1 < n := by omega
  obtain ⟨i2, hi2⟩ : ∃ i, withinI pos 0 (n : Int) = i := ⟨_, rfl⟩
  have hi2a : 0 ≤ i2 := by rw [← hi2]; exact withinI_lo pos 0 _ (by omega)
  have hi2b : i2 ≤ (n : Int) := by rw [← hi2]; exact withinI_hi pos 0 _ (by omega)
  obtain ⟨j2, hj2⟩ : ∃ j : Nat, i2 = (j : Int) := ⟨i2.toNat, by omega⟩
  subst hj2
  have hj2n : j2 ≤ n := by omega
  have HI1 := Lib.hid hi1
  have HI2 := Lib.hid hi2
  have c1 := hcell j1 (by omega)
  have z1 := hfz j1 (by omega)
  have hW1 := Lib.hid (within_any pos 0 ((n : Int) - 1) w3 (by omega) (by omega) (by omega) (by omega))
  obtain ⟨W4, hW4⟩ : ∃ w, w3.setCell ⟨g3, j1, none⟩ (.int .u8 (by_ % 256)) = w := ⟨_, rfl⟩
  have hb8 : by_ % 256 = ((b8 by_).toNat : Int) := (b8_nat by_).symm
  obtain ⟨q, hq⟩ : ∃ q : ByteArray, ⟨(p.data.toList.set j1 (b8 by_)).toArray⟩ = q := ⟨_, rfl⟩
  have hk4 : Keeps (fun _ => False) w2 W4 := by
    rw [← hW4]
    exact hk3.setCell (p := ⟨g3, j1, none⟩) (fun h => by have h : g3 < w2.heap.size := h; omega) _
  have hg4 : g3 < W4.heap.size := by
    rw [← hW4]
    have := block_lt_of_cell (a := ⟨g3, j1, none⟩) c1
    simpa [World.setCell] using this
  have hbl : ∀ X, Keeps (fun _ => False) W4 X → (convert 35 9 (.slice (some ⟨g3, 0, none⟩) n cap)).run Tryd.prog X = .ok (.string q) X := fun X hX => by
    have hcl : ∀ j (hj : j < (p.data.toList.set j1 (b8 by_)).length), X.cell? ((⟨g3, 0, none⟩ : Addr).add j) = some (.int .u8 (((p.data.toList.set j1 (b8 by_))[j]).toNat : Int)) := fun j hj => by
      rw [List.length_set, Array.length_toList] at hj
      have hj : j < p.size := hj
      rw [Go.WideShapes.add_plain, Nat.zero_add]
      refine hX.cell ?_ (fun h => h)
      rw [← hW4]
      have hc0 := hcell j hj
      by_cases hij : j1 = j
      · subst hij
        rw [World.cell?_setCell_same _ _ _ (by rw [hc0]), List.getElem_set_self, hb8]
      · rw [World.cell?_setCell_other _ _ _ _ (by intro e; cases e; exact hij rfl), hc0, List.getElem_set_ne hij, List.getD_eq_getElem?_getD, List.getElem?_eq_getElem (by rw [Array.length_toList]; exact hj)]
        rfl
    have h := run_convert_bytes_back (P := Tryd.prog) X 35 9 5 ⟨g3, 0, none⟩ cap (p.data.toList.set j1 (b8 by_)) Tryd.underlying35 Tryd.underlying5 Tryd.underlying9 hcl
    rw [List.length_set, hq, show p.data.toList.length = n from by rw [← hn]; exact Array.length_toList] at h
    exact h
  have hQ : Hid (∀ X, Keeps (fun _ => False) W4 X → ((convert 35 9 (.slice (some ⟨g3, 0, none⟩) n cap)).run Tryd.prog X = .ok (.string q) X)) := hbl
  have HK4 : Hid (Keeps (fun _ => False) W W4) := HK2.out.trans hk4 (fun _ _ h => h)
  have HW4 := Lib.hid hW4
  obtain ⟨r, hr⟩ : ∃ r, p.extract 0 j2 = r := ⟨_, rfl⟩
  have k1 : (0 : Int) ≤ (j1 : Int) := by omega
  have k2 : (j1 : Int) < (n : Int) := by omega
  have k3 : (0 : Int) ≤ (j2 : Int) := by omega
  have k4 : (j2 : Int) ≤ (n : Int) := by omega
  have k5 : (n : Int) ≤ 100000 := by omega
  have k6 : (100 : Int) ≤ (n : Int) := by omega
  clear hcell hfz hk3 hk4 hg4 hbl hi1 hi2 hi1a hi1b hi2a hi2b hj1n hj2n hb8 hq hw3 hg3 hcap hps hW4
  go_wp2_with fail
  refine hW1.out.mono ?_
  rintro e w9 ⟨rfl, rfl⟩
  rw [HI1.out]
  go_upto_region 6 with (fail)
  rw [HW4.out]
  go_cut [48, 49, 50] from 39 to 50 (fun v48 v49 v50 wd => ∃ g5, v48 = .slice (some ⟨g5, 0, none⟩) 3 3 ∧ v49 = .int .i64 3 ∧ v50 = .int .i64 0 ∧ Blk wd g5 9 [.string s, .string q, .string r] ∧ Keeps (fun _ => False) W4 wd)
  case first =>
    refine wp_region_noPanic ?_
    refine wp_region_till [] (fun X => (convert 35 9 (.slice (some ⟨g3, 0, none⟩) n cap)).run Tryd.prog X = .ok (.string q) X) (by kernel_rfl) ?_ (fun hE => ?_)
    · first | exact hQ.out _ hkA | exact hQ.out _ (by repeat (first | (with_reducible exact Keeps.refl _ _) | (with_reducible assumption) | (with_reducible refine Keeps.drew ?_) | (with_reducible refine Keeps.drewN ?_ _) | (with_reducible refine Keeps.alloc ?_ _) | (with_reducible refine Keeps.trans ?_ (by assumption) (fun _ _ h => h))))
    have hS := hE (by kernel_rfl)
    refine wpAnyT_pure (i := 0) (oi := { dst := some 39, op := Op.move (Operand.tmp 0), type := 9, pos := "build.go:267", after := #[], guard := none }) (v := ?v6_0_1) rfl (by kernel_rfl) (fun _ _ _ h => h) (Or.inl ⟨by rfl, ?y6_0_1⟩) (fun _ => hS) ?_
    case y6_0_1 => (intro w hSw; go_simp; try with_reducible rfl)
    try simp only [Act.put, List.setIfInBounds_toArray, List.set_cons_zero, List.set_cons_succ]
    refine wpAnyT_pure (i := 1) (oi := { dst := some 40, op := Op.move (Operand.tmp 9), type := 35, pos := "build.go:267", after := #[], guard := none }) (v := ?v6_1_2) rfl (by kernel_rfl) (fun _ _ _ h => h) (Or.inl ⟨by rfl, ?y6_1_2⟩) (fun _ => hS) ?_
    case y6_1_2 => (intro w hSw; go_simp; try with_reducible rfl)
    try simp only [Act.put, List.setIfInBounds_toArray, List.set_cons_zero, List.set_cons_succ]
    refine wpAnyT_take (i := 2) (oi := { dst := some 41, op := Op.convert 35 9 (Operand.tmp 40), type := 9, pos := "build.go:267", after := #[⟨1, .data⟩], guard := none }) (v := (.string q)) rfl (by kernel_rfl) (fun _ _ _ h => h) (Or.inl ⟨by rfl, ?y6_2_3⟩) hS ?_
    case y6_2_3 => (intro w hSw; have hSw2 : (convert 35 9 (.slice (some ⟨g3, 0, none⟩) n cap)).run Tryd.prog w = .ok (.string q) w := hSw; go_simp)
    try simp only [Act.put, List.setIfInBounds_toArray, List.set_cons_zero, List.set_cons_succ]
    refine wpAnyT_pure (i := 3) (oi := { dst := some 42, op := Op.move (Operand.tmp 7), type := 9, pos := "build.go:267", after := #[], guard := none }) (v := ?v6_3_4) rfl (by kernel_rfl) (fun _ _ _ h => h) (Or.inl ⟨by rfl, ?y6_3_4⟩) (fun _ => hS) ?_
    case y6_3_4 => (intro w hSw; go_simp; try with_reducible rfl)
    try simp only [Act.put, List.setIfInBounds_toArray, List.set_cons_zero, List.set_cons_succ]
    refine wpAnyT_pure (i := 4) (oi := { dst := some 43, op := Op.move (Operand.tmp 1), type := 3, pos := "build.go:267", after := #[], guard := none }) (v := ?v6_4_5) rfl (by kernel_rfl) (fun _ _ _ h => h) (Or.inl ⟨by rfl, ?y6_4_5⟩) (fun _ => hS) ?_
    case y6_4_5 => (intro w hSw; go_simp; try with_reducible rfl)
    try simp only [Act.put, List.setIfInBounds_toArray, List.set_cons_zero, List.set_cons_succ]
    refine wpAnyT_pure (i := 5) (oi := { dst := some 44, op := Op.move (Operand.tmp 7), type := 9, pos := "build.go:267", after := #[], guard := none }) (v := ?v6_5_6) rfl (by kernel_rfl) (fun _ _ _ h => h) (Or.inl ⟨by rfl, ?y6_5_6⟩) (fun _ => hS) ?_
    case y6_5_6 => (intro w hSw; go_simp; try with_reducible rfl)
    try simp only [Act.put, List.setIfInBounds_toArray, List.set_cons_zero, List.set_cons_succ]
    refine wpAnyT_pure (i := 6) (oi := { dst := some 45, op := Op.call { callee := Callee.builtin Builtin.len, args := #[Operand.tmp 44], argTypes := #[9] }, type := 3, pos := "build.go:267", after := #[⟨5, .data⟩], guard := none }) (v := ?v6_6_7) rfl (by kernel_rfl) (fun _ _ _ h => h) (Or.inl ⟨by rfl, ?y6_6_7⟩) (fun _ => hS) ?_
    case y6_6_7 => (intro w hSw; go_simp; try with_reducible rfl)
    try simp only [Act.put, List.setIfInBounds_toArray, List.set_cons_zero, List.set_cons_succ]
    refine wpAnyT_pure (i := 11) (oi := { dst := some 50, op := Op.move (Operand.const (Value.int IntKind.i64 0)), type := 3, pos := "build.go:267", after := #[], guard := none }) (v := ?v6_11_8) rfl (by kernel_rfl) (fun _ _ _ h => h) (Or.inl ⟨by rfl, ?y6_11_8⟩) (fun _ => hS) ?_
    case y6_11_8 => (intro w hSw; go_simp; try with_reducible rfl)
    try simp only [Act.put, List.setIfInBounds_toArray, List.set_cons_zero, List.set_cons_succ]
    refine wpAnyT_ready (rs := [7]) (by kernel_rfl) rfl ?_
    refine AllT.cons (o := { dst := some 46, op := Op.call { callee := Callee.value (Operand.func 6), args := #[Operand.tmp 43, Operand.const (Value.int IntKind.i64 0), Operand.tmp 45], argTypes := #[3, 3, 3] }, type := 3, pos := "build.go:267", after := #[⟨4, .data⟩, ⟨6, .data⟩], guard := none }) rfl (fun K hK => ?_) ?_
    · (go_simp; go_at_call 6; refine (within_any _ 0 _ _ (by omega) (by omega) (by omega) (by omega)).mono ?_; rintro e w' ⟨rfl, rfl⟩; go_wp2_with fail; rw [HI2.out])
      refine hK.out _ _ (fun _ => ?_) (fun hE => ?_)
      · first | exact hQ.out _ hkA | exact hQ.out _ (by repeat (first | (with_reducible exact Keeps.refl _ _) | (with_reducible assumption) | (with_reducible refine Keeps.drew ?_) | (with_reducible refine Keeps.drewN ?_ _) | (with_reducible refine Keeps.alloc ?_ _) | (with_reducible refine Keeps.trans ?_ (by assumption) (fun _ _ h => h))))
      have hS := hE (by kernel_rfl)
      clear hK K hE
      try simp only [Act.put, List.setIfInBounds_toArray, List.set_cons_zero, List.set_cons_succ]
      refine wpAnyT_pure (i := 8) (oi := { dst := some 47, op := Op.slice 9 (Operand.tmp 42) none (some (Operand.tmp 46)) none, type := 9, pos := "build.go:267", after := #[⟨3, .data⟩, ⟨7, .data⟩], guard := none }) (v := ?v6_8_9) rfl (by kernel_rfl) (fun _ _ _ h => h) (Or.inl ⟨by rfl, ?y6_8_9⟩) (fun _ => hS) ?_
      case y6_8_9 => (intro w hSw; go_simp; try with_reducible rfl)
      try simp only [Act.put, List.setIfInBounds_toArray, List.set_cons_zero, List.set_cons_succ]
      refine wpAnyT_ready (rs := [9]) (by kernel_rfl) rfl ?_
      refine AllT.cons (o := { dst := some 48, op := Op.buildSlice 25 3 #[(0, Operand.tmp 39), (1, Operand.tmp 41), (2, Operand.tmp 47)], type := 25, pos := "build.go:267", after := #[⟨0, .data⟩, ⟨2, .data⟩, ⟨8, .data⟩], guard := none }) rfl (fun K hK => ?_) ?_
      · go_simp
        refine hK.out _ _ (fun _ => ?_) (fun hE => ?_)
        · first | exact hQ.out _ hkA | exact hQ.out _ (by repeat (first | (with_reducible exact Keeps.refl _ _) | (with_reducible assumption) | (with_reducible refine Keeps.drew ?_) | (with_reducible refine Keeps.drewN ?_ _) | (with_reducible refine Keeps.alloc ?_ _) | (with_reducible refine Keeps.trans ?_ (by assumption) (fun _ _ h => h))))
        have hS := hE (by kernel_rfl)
        clear hK K hE
        try simp only [Act.put, List.setIfInBounds_toArray, List.set_cons_zero, List.set_cons_succ]
        refine wpAnyT_pure (i := 10) (oi := { dst := some 49, op := Op.call { callee := Callee.builtin Builtin.len, args := #[Operand.tmp 48], argTypes := #[25] }, type := 3, pos := "build.go:267", after := #[⟨9, .data⟩], guard := none }) (v := ?v6_10_10) rfl (by kernel_rfl) (fun _ _ _ h => h) (Or.inl ⟨by rfl, ?y6_10_10⟩) (fun _ => hS) ?_
        case y6_10_10 => (intro w hSw; go_simp; try with_reducible rfl)
        try simp only [Act.put, List.setIfInBounds_toArray, List.set_cons_zero, List.set_cons_succ]
        refine wpAnyT_done (by kernel_rfl) ?_ _
        refine NoPanic.normal ?_
        go_wp2_with fail
        go_meet
        exact ⟨_, rfl, rfl, rfl, by first | exact Blk.new _ _ [_, _, _] | exact (Blk.new _ _ [_, _, _]).drew | exact ((Blk.new _ _ [_, _, _]).drew).drewN _ | exact (Blk.new _ _ [_, _, _]).drewN _, (by repeat (first | (with_reducible exact Keeps.refl _ _) | (with_reducible assumption) | (with_reducible refine Keeps.drew ?_) | (with_reducible refine Keeps.drewN ?_ _) | (with_reducible refine Keeps.alloc ?_ _) | (with_reducible refine Keeps.trans ?_ (by assumption) (fun _ _ h => h))))⟩
      exact AllT.nil
    exact AllT.nil
  case rest =>
    obtain ⟨g5, rfl, rfl, rfl, hb5, hk5⟩ := hcut
    obtain ⟨w5, hw5⟩ : ∃ w, w = wc := ⟨_, rfl⟩
    rw [← hw5] at hb5 hk5 ⊢
    clear hw5 k0 k1 k2 k3 k4 k5 k6 c1 z1 hcv
    have HB5 := Lib.hid hb5
    have HK5 : Hid (Keeps (fun _ => False) W w5) := HK4.out.trans hk5 (fun _ _ h => h)
    clear hb5 hk5
    go_wp2_with fail
    go_loopw [50] (fun i wr => ∃ j : Nat, j ≤ 3 ∧ .int .i64 (j : Int) = i ∧ Hid (Keeps (fun _ => False) w5 wr)) (fun i _ => 3 - (intOf i).toNat)
    case atStart => exact ⟨0, by omega, by simp, Keeps.refl _ _⟩
    case round =>
      obtain ⟨j, hj, rfl, hk⟩ := hrel
      by_cases hlt : j < 3
      · obtain ⟨t, ht⟩ : ∃ t, wr.cell? ⟨g5, 0 + j, none⟩ = some (.string t) := by
          have hb := HB5.out.keeps hk.out (fun h => h)
          rcases (by omega : j = 0 ∨ j = 1 ∨ j = 2) with rfl | rfl | rfl
          · exact ⟨s, hb.cell (i := 0) rfl⟩
          · exact ⟨q, hb.cell (i := 1) rfl⟩
          · exact ⟨r, hb.cell (i := 2) rfl⟩
        rw [Nat.zero_add] at ht
        have k1 : (0 : Int) ≤ (j : Int) := by omega
        have k2 : (j : Int) < 3 := by omega
        have hkr : Keeps (fun _ => False) W wr := HK5.out.trans hk.out (fun _ _ h => h)
        have HDe := Lib.hid (Decode_any wr t (szs_same HZ.out hkr))
        have HKr := Lib.hid hkr
        clear hkr
        go_wp2_with fail
        refine HDe.out.mono ?_
        rintro e w6 ⟨cs, z, rfl, hk6, hor⟩
        have HK6 : Hid (Keeps (fun _ => False) w5 w6) := hk.out.trans hk6 (fun _ _ h => h)
        clear hk6 hk ht HDe
        rcases hor with ⟨hz, rfl⟩ | ⟨rfl, x, hRp, hfw, hck⟩
        · unfold zFace
          go_wp2_with fail
          go_roundw
          case rel => exact ⟨j + 1, by omega, by go_num, HK6.out.alloc _⟩
          case measure => simp [intOf]; omega
        · have hR2 := hRp
          obtain ⟨v1, v2, v3, v4, v5, v6, v7, rfl, -, s1, s2, s3, s4, s5, s6, s7⟩ := Iface.rp.1 hRp
          obtain ⟨A1, q1, rfl, -, -, -⟩ := s1.form
          obtain ⟨A2, q2, rfl, -, -, -⟩ := s2.form
          obtain ⟨A3, q3, rfl, -, -, -⟩ := s3.form
          obtain ⟨A4, q4, rfl, -, -, -⟩ := s4.form
          obtain ⟨A5, q5, rfl, -, -, -⟩ := s5.form
          obtain ⟨A6, q6, rfl, -, -, -⟩ := s6.form
          obtain ⟨A7, q7, rfl, -, -, -⟩ := s7.form
          obtain ⟨b7, hb7⟩ : ∃ b, w6.heap.size = b := ⟨_, rfl⟩
          obtain ⟨W7, hW7⟩ : ∃ w, w6.alloc (.cells #[.string x.module, .slice A1 x.imports.length q1, .slice A2 x.fixes.length q2, .slice A3 x.datas.length q3, .slice A4 x.classes.length q4, .slice A5 x.insts.length q5, .slice A6 x.ops.length q6, .slice A7 x.vals.length q7] 33) = w := ⟨_, rfl⟩
          have hk7 : Keeps (fun _ => False) w6 W7 := by rw [← hW7]; exact (Keeps.refl _ _).alloc _
          have hbx : Blk W7 b7 33 [.string x.module, .slice A1 x.imports.length q1, .slice A2 x.fixes.length q2, .slice A3 x.datas.length q3, .slice A4 x.classes.length q4, .slice A5 x.insts.length q5, .slice A6 x.ops.length q6, .slice A7 x.vals.length q7] := by rw [← hW7, ← hb7]; exact Blk.new w6 _ [_, _, _, _, _, _, _, _]
          have hE := Encode_ok W7 x _ [.string x.module, .slice A1 x.imports.length q1, .slice A2 x.fixes.length q2, .slice A3 x.datas.length q3, .slice A4 x.classes.length q4, .slice A5 x.insts.length q5, .slice A6 x.ops.length q6, .slice A7 x.vals.length q7] (hR2.keeps hk7 (fun _ _ h => h)) (fun b hb => Nat.lt_of_lt_of_le hb hk7.size) (szs_same HZ.out ((HK5.out.trans HK6.out (fun _ _ h => h)).trans hk7 (fun _ _ h => h))) (Nat.le_trans (check_size hck) (by decide)) hck
          rw [bstr_of hfw] at hE
          have HE := Lib.hid hE
          have HK7 : Hid (Keeps (fun _ => False) w5 W7) := HK6.out.trans hk7 (fun _ _ h => h)
          have HW7 := Lib.hid hW7
          have HB7 := Lib.hid hb7
          have et : (t.toList == t.toList) = true := by simp
          have x0 := hbx.cell (i := 0) rfl
          have x1 := hbx.cell (i := 1) rfl
          have x2 := hbx.cell (i := 2) rfl
          have x3 := hbx.cell (i := 3) rfl
          have x4 := hbx.cell (i := 4) rfl
          have x5 := hbx.cell (i := 5) rfl
          have x6 := hbx.cell (i := 6) rfl
          have x7 := hbx.cell (i := 7) rfl
          clear hRp hR2 hfw hck s1 s2 s3 s4 s5 s6 s7 hb7 hW7 hk7 hbx hE
          go_upto_region 10 with (fail)
          rw [HW7.out, HB7.out]
          go_wp2_with fail
          refine HE.out.mono ?_
          rintro e w8 ⟨rfl, hk8⟩
          have HK8 : Hid (Keeps (fun _ => False) w5 w8) := HK7.out.trans hk8 (fun _ _ h => h)
          clear hk8 x0 x1 x2 x3 x4 x5 x6 x7
          go_wp2_with fail
          go_roundw
          case rel => exact ⟨j + 1, by omega, by go_num, HK8.out⟩
          case measure => simp [intOf]; omega
      · obtain rfl : j = 3 := by omega
        have k1 : ¬ (((3 : Nat) : Int)) < 3 := by omega
        have HKr : Hid (Keeps (fun _ => False) W wr) := HK5.out.trans hk.out (fun _ _ h => h)
        clear hk
        go_wp2_with fail
        go_ret
        exact ⟨rfl, HKr.out.below (fun _ h => h.elim) (Nat.le_refl _)⟩
end If
end Go.Proofs.YtcbkihplchdhhaaDoor
