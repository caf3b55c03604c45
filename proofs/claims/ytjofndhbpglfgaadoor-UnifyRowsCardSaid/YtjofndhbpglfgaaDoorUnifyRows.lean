/- UnifyRows: whatever the input, the law answers true. The card ties the variable unify.sizes to the program's text. -/
import Derived.Test.YtjofndhbpglfgaaDoorURowC
import Derived.Test.YtjofndhbpglfgaaDoorWithin
import Derived.Test.YtjofndhbpglfgaaDoorHanded
import Derived.Lib.LaidTab
import Derived.LaidSub
import Derived.ChangeMaps5
namespace Go.Proofs.YtjofndhbpglfgaaDoor.unifyRows
open Go.RowKit Go.Shelf Go.ChangeShapes Go.WideShapes Go.Sort Stab Go.Proofs.YtjofndhbpglfgaaDoor Go.ChangeMaps

def nX : ByteArray := ⟨#[120]⟩
theorem emptyR_ok {w : World} {F : Nat → Prop} : TyC w F emptyR (.slice none 0 0) := ⟨by show (Lit.int .i64 4).wf = true; decide, by show (0 : Nat) ≤ maxLen; exact Nat.zero_le _, by show (Lit.int .i64 0).wf = true; decide, Sl.nil_⟩

theorem own_slice {w : World} {b : Nat} {e : TypeId} {s n : Nat} {v : Value} {xs : List Value} (h : w.ownsRow b e s v n xs) : ∃ A c, v = .slice A n c := by
  rcases h.2 with ⟨h1, h2⟩ | ⟨g, cap, _, h1, _⟩
  · exact ⟨none, 0, by rw [h1, h2]⟩
  · exact ⟨_, _, h1⟩

/-- The closure, at a world that is kept. -/
theorem build2 (l : List ByteArray) (v : Value) (r : Ty) (hr : rowT (entL l) = r) (X Y : World) (hv : Sl Y (fun b => b < Y.heap.size) dStr l v) (hk : Keeps (fun _ => False) Y X) :
    Calls Tryd.prog 35 #[v] X (fun e w' => ∃ A c, e = .returned (.agg #[.int .i64 r.kind, .string r.name, .int .i64 r.var, .slice A r.args.length c]) ∧ TyC w' (fun b => Y.heap.size ≤ b ∧ b < w'.heap.size) r (.slice A r.args.length c) ∧ Keeps (fun _ => False) Y w') := by
  refine (build_any l v _ X (hv.keeps hk (fun _ _ h => h)) (fun b hb => Nat.lt_of_lt_of_le hb hk.size)).mono ?_
  rintro e w' ⟨av, he, hT, hkk⟩
  rw [hr] at he hT
  obtain ⟨A, c, rfl, _⟩ := hT.form
  exact ⟨A, c, he, hT.mono (fun b hb => ⟨Nat.le_trans hk.size hb.1, hb.2⟩), hk.trans hkk (fun _ _ h => h)⟩
/-- The rotated labels, out of the append. -/
theorem moved {N : List ByteArray} {kk B : Nat} {w w' : World} {F : Nat → Prop} {v : Value} {news : List Value} (hn : RpAll w F ((N.take kk).map dStr) news) (ho : w'.ownsRow B 9 1 v ((N.drop kk).length + kk) ((N.drop kk).map Value.string ++ news))
    (hs : ∀ y ∈ N, y.size ≤ maxLen) (hk : kk ≤ N.length) : Sl w' (fun b => b < w'.heap.size) dStr (N.drop kk ++ N.take kk) v := by
  have e := strs_news _ _ hn
  have hl : (N.drop kk).length + kk = (N.drop kk ++ N.take kk).length := by rw [List.length_append, List.length_take, Nat.min_eq_left hk]
  rw [e, ← List.map_append, hl] at ho
  exact Sl.of_own (F := fun _ => False) ho rfl (rp_strs _ _ (fun y hy => by
    rcases List.mem_append.1 hy with hy | hy
    · exact hs y (List.mem_of_mem_drop hy)
    · exact hs y (List.mem_of_mem_take hy)) _) (fun _ h => h.elim) (fun b hb => (ho.lt b hb).2)

set_option maxRecDepth 100000 in
set_option maxHeartbeats 40000000 in
theorem walk (L : List ByteArray) (bi : Int) (label : ByteArray) (lv : Value) (W : World) (hL : Sl W (· < W.heap.size) dStr L lv) (hlab : label.size ≤ maxLen) (hz : Szs W) :
    Calls Tryd.prog 8 #[lv, .int .i64 bi, .string label] W fun e w' => e = .returned (.bool true) ∧ Below W.heap.size W w' := by
  obtain ⟨i0, hi0, hz0, hz1, hz2⟩ := info_parts infoStr
  obtain ⟨A, c, rfl, hlc, hcm, _⟩ := hL.form
  have hl : L.length ≤ 9223372036854775807 := by unfold maxLen at hcm; omega
  have HL := Lib.hid hL
  have HLab := Lib.hid hlab
  have HZ := Lib.hid hz
  clear hL hlab hz hlc hcm
  go_enter Tryd.func8, Tryd.ntmps8
  go_wp2_with fail
  with_reducible refine (num_any _).mono ?_
  rintro e w1 ⟨rfl, hk1⟩
  have HK1 := Lib.hid hk1
  clear hk1
  go_wp2_with fail
  with_reducible refine (num_any _).mono ?_
  rintro e w2 ⟨rfl, hk2⟩
  have HK2 := Lib.hid (HK1.out.trans hk2 (fun _ _ h => h))
  clear hk2 HK1
  go_wp2_with fail
  refine (pair_any w2 numT numT none none 0 0).mono ?_
  rintro e w3 ⟨sv, rfl, hs3, hb3⟩
  obtain ⟨As, cs, rfl, _⟩ := hs3.form
  have HS3 := Lib.hid ((hs3.mono (fun b hb => hb.2) : Sl w3 (fun b => b < w3.heap.size) tyD (idS 12) _))
  have HK3 := Lib.hid (HK2.out.trans (Keeps.of_below (X := fun _ => False) hb3) (fun _ _ h => h))
  rw [idS_len]
  clear hs3 hb3 HK2
  go_wp2_with fail
  with_reducible refine (num_any _).mono ?_
  rintro e w4 ⟨rfl, hk4⟩
  have HK34 := Lib.hid hk4
  clear hk4
  go_wp2_with fail
  refine (ext_any nX (by unfold maxLen nX; decide) w4 (fun _ => False) numT emptyR (.slice none 0 0) (.slice none 0 0) num_ok emptyR_ok).mono ?_
  rintro e w5 ⟨ov, rfl, hT5, hb5⟩
  have hk35 := HK34.out.trans (Keeps.of_below (X := fun _ => False) hb5) (fun _ _ h => h)
  obtain ⟨Ao, co, rfl, _⟩ := hT5.form
  obtain ⟨o, ho⟩ : ∃ o, extT nX numT emptyR = o := ⟨_, rfl⟩
  have ho2 : rowT [(nX, numT)] = o := ho
  rw [ho] at hT5 ⊢
  have hu := unify_one nX
  rw [ho2] at hu
  obtain ⟨W6, hW6⟩ : ∃ W6, w5.alloc (.cells #[.int .i64 o.kind, .string o.name, .int .i64 o.var, .slice Ao o.args.length co] 45) = W6 := ⟨_, rfl⟩
  have hk56 : Keeps (fun _ => False) w5 W6 := by rw [← hW6]; exact (Keeps.refl _ _).alloc _
  have hk36 := hk35.trans hk56 (fun _ _ h => h)
  have hk06 := HK3.out.trans hk36 (fun _ _ h => h)
  have hs36 := hk36.size
  have hs56 := hk56.size
  have hS6 : Sl W6 (fun b => b < W6.heap.size) tyD (idS 12) (.slice As (idS 12).length cs) := (HS3.out.keeps hk36 (fun _ _ h => h)).mono (fun b hb => Nat.lt_of_lt_of_le hb hs36)
  have hT6 : TyC W6 (fun b => b < W6.heap.size) o (.slice Ao o.args.length co) := (hT5.keeps hk56 (fun _ _ h => h)).mono (fun b hb => by rcases hb with hb | hb; exact hb.elim; exact Nat.lt_of_lt_of_le hb.2 hs56)
  have hU := unify_any 400 400 _ W6 _ (idS 12) hS6 (fun b hb => hb) (HZ.out.keeps hk06 (fun h => h)) (by rw [idS_len]; omega) o emptyR _ (.slice none 0 0) hT6 emptyR_ok 10 (idS 12) hu
  unfold tyV at hU
  rw [idS_len] at hU
  have HU := Lib.hid hU
  have HS6 := Lib.hid hS6
  have HK6 := Lib.hid hk06
  have HW6 := Lib.hid hW6
  unfold tyV
  clear hT5 hb5 hk35 ho ho2 hu hW6 hk56 hk36 hk06 hs36 hs56 hS6 hT6 hU HS3 HK3 HK34
  go_wp2_with fail
  rw [HW6.out]
  refine HU.out.mono ?_
  rintro e w7 ⟨hb7, (⟨_, rfl⟩ | ⟨h, _⟩)⟩
  rotate_left
  · exact absurd h (by decide)
  have hk7 := HK6.out.trans (Keeps.of_below (X := fun _ => False) hb7) (fun _ _ h => h)
  have hs7 := hb7.size
  have hS7 : Sl w7 (fun b => b < w7.heap.size) tyD (idS 12) (.slice As (idS 12).length cs) := (HS6.out.later hb7).mono (fun b hb => Nat.lt_of_lt_of_le hb hs7)
  have HS7 := Lib.hid hS7
  have HK7 := Lib.hid hk7
  clear hb7 hk7 hs7 hS7 HU HS6 HK6 HW6
  go_wp2_with fail
  obtain ⟨b7, hb7e⟩ : ∃ b7, w7.heap.size = b7 := ⟨_, rfl⟩
  go_loopw [12, 14, 47] (fun nv _ i wr => ∃ (k : Nat) (N : List ByteArray), k ≤ L.length ∧ i = .int .i64 k ∧ N.length ≤ 10 ∧ wr.ownsRow b7 9 1 nv N.length (N.map Value.string) ∧ (∀ y ∈ N, y.size ≤ maxLen) ∧ Keeps (fun _ => False) w7 wr) (fun _ _ i _ => L.length - (intOf i).toNat)
  case atStart => exact ⟨0, [], Nat.zero_le _, rfl, by simp, World.ownsRow_nil _ _ _ _, by simp, Keeps.refl _ _⟩
  case round =>
    obtain ⟨k, N, hk, rfl, hN, hown, hNs, hkr⟩ := hrel
    obtain ⟨An, cn, rfl⟩ := own_slice hown
    have HOwn := Lib.hid hown
    have HKR := Lib.hid hkr
    have HB7 := Lib.hid hb7e
    by_cases hlt : k < L.length
    · obtain ⟨g, off, hadr, hFg, c0, hsz⟩ := dStr.get (HL.out.keeps (HK7.out.trans hkr (fun _ _ h => h)) (fun i hi h => h)) hlt
      obtain rfl := hadr
      obtain ⟨x, hx⟩ : ∃ x, L[k] = x := ⟨_, rfl⟩
      rw [hx] at c0 hsz
      have hCo := strContains N x _ _ wr (own_strs hown hNs)
      obtain ⟨q, hq⟩ : ∃ q, N.any (fun y => decide (x = y)) = q := ⟨_, rfl⟩
      rw [hq] at hCo
      have HCo := Lib.hid hCo
      have k0 : (0 : Int) ≤ (k : Int) := by omega
      have k1 : (k : Int) < (L.length : Int) := by omega
      have hbw : b7 ≤ wr.heap.size := by have := hkr.size; omega
      clear hCo hx hq hown hkr hb7e
      cases q
      · by_cases h10 : N.length < 10
        · have h10i : (N.length : Int) < 10 := by omega
          have hlen : (N ++ [x]).length = N.length + 1 := by simp
          go_wp2_with fail
          with_reducible refine HCo.out.mono ?_
          rintro e w8 ⟨rfl, rfl⟩
          go_wp2_with (at_builtin; refine wpList_append_lies _ rfl _ _ 63 rfl b7 9 i0 _ 1 16 Tryd.underlying63 hi0 hz0 hz1 hz2 rfl (by omega) _ N.length _ rfl (World.ownsRow.alloc HOwn.out _) ⟨wr.heap.size, 0, none⟩ 1 1 [.string x] rfl rfl (World.news_of_block (cs := #[.string x]) (t := 9) (fr := (0, 0)) (heap_alloc_new _ _)) (by simp [Value.oneCell']) (by omega) (by unfold maxLen; omega) (by omega) (by simp; omega) (wr.heap.size + 1) (by simp) ?_; intro gg cap w9 hown1 hgrow hat hlt1; have hk9 : Keeps (fun _ => False) w7 w9 := (HKR.out.alloc _).grown hgrow (fun j hj hjl => by have := (HOwn.out.lt j hj).1; have := HB7.out; omega))
          go_roundw
          case rel => exact ⟨k + 1, N ++ [x], by omega, by go_num, by omega, by rw [hlen, List.map_append]; exact hown1, fun y hy => by
            rcases List.mem_append.1 hy with hy | hy
            · exact hNs y hy
            · rw [List.mem_singleton.1 hy]; exact hsz, hk9⟩
          case measure => simp [intOf]; omega
        · have h10i : ¬ (N.length : Int) < 10 := by omega
          go_wp2_with fail
          with_reducible refine HCo.out.mono ?_
          rintro e w8 ⟨rfl, rfl⟩
          go_wp2_with fail
          go_roundw
          case rel => exact ⟨k + 1, N, by omega, by go_num, hN, HOwn.out, hNs, HKR.out⟩
          case measure => simp [intOf]; omega
      · go_wp2_with fail
        with_reducible refine HCo.out.mono ?_
        rintro e w8 ⟨rfl, rfl⟩
        go_wp2_with fail
        go_roundw
        case rel => exact ⟨k + 1, N, by omega, by go_num, hN, HOwn.out, hNs, HKR.out⟩
        case measure => simp [intOf]; omega
    · have k1 : ¬ (k : Int) < (L.length : Int) := by omega
      clear hown hkr hb7e
      go_upto_if 67 with fail
      go_cut [16] (fun s16 wc => ∃ kk : Nat, s16 = .int .i64 kk ∧ kk ≤ N.length ∧ wc = wr)
      case first =>
        by_cases h0 : N.length = 0
        · have h0i : ¬ (0 : Int) < (N.length : Int) := by omega
          clear h0
          go_wp2_with fail
          go_meet
          exact ⟨0, rfl, Nat.zero_le _, rfl⟩
        · have h0i : (0 : Int) < (N.length : Int) := by omega
          have HWi := Lib.hid (within_any bi 0 ((N.length : Int) - 1) wr (by omega) (by omega) (by omega) (by omega))
          obtain ⟨kk, hkk⟩ : ∃ kk : Nat, withinI bi 0 ((N.length : Int) - 1) = (kk : Int) := ⟨(withinI bi 0 ((N.length : Int) - 1)).toNat, by have := withinI_lo bi 0 ((N.length : Int) - 1) (by omega); omega⟩
          have hkl : kk ≤ N.length := by have := withinI_hi bi 0 ((N.length : Int) - 1) (by omega); omega
          rw [hkk] at HWi
          clear hkk
          go_wp2_with fail
          with_reducible refine HWi.out.mono ?_
          rintro e w8 ⟨rfl, rfl⟩
          go_wp2_with fail
          go_meet
          exact ⟨kk, rfl, hkl, rfl⟩
      case rest =>
        obtain ⟨kk, rfl, hkl, rfl⟩ := hcut
        have hSl := own_strs HOwn.out hNs
        have hSl2 : Sl wc (fun b => b < wc.heap.size) dStr N (.slice An N.length cn) := Sl.of_own (F := fun _ => False) HOwn.out rfl (rp_strs _ _ hNs _) (fun _ h => h.elim) (fun b hb => (HOwn.out.lt b hb).2)
        have hD := Sl.drop hSl2 dStr.wide (i := kk) hkl
        have hTk := Sl.take hSl2 (i := kk) hkl
        obtain ⟨A2, hA2⟩ : ∃ A2, (if cn = kk then An else An.map (fun x => x.add (kk * 1))) = A2 := ⟨_, rfl⟩
        rw [hA2] at hD
        rw [Nat.mul_one] at hA2
        obtain ⟨_, _, hfe, hlc, hcm, _⟩ := hSl.form
        simp only [Value.slice.injEq, true_and] at hfe
        obtain ⟨rfl, rfl⟩ := hfe
        have c1 : kk ≤ cn := by omega
        have c2 : (kk : Int) ≤ (cn : Int) := by omega
        have c3 : (N.length : Int) ≤ (cn : Int) := by omega
        have c4 : (kk : Int) ≤ (N.length : Int) := by omega
        have c5 : (cn : Int) ≤ 9223372036854775807 := by unfold maxLen at hcm; omega
        have c6 : ¬ cn < kk := by omega
        have c7 : ¬ cn < N.length := by omega
        have c8 : ¬ N.length < kk := by omega
        obtain ⟨ra, hra⟩ : ∃ ra, rowT (entL N) = ra := ⟨_, rfl⟩
        obtain ⟨rb, hrb⟩ : ∃ rb, rowT (entL (N.drop kk ++ N.take kk)) = rb := ⟨_, rfl⟩
        have HCl : Hid (∀ X Y, Keeps (fun _ => False) wc X → Keeps (fun _ => False) Y X → Calls Tryd.prog 36 #[.slice A2 (N.length - kk) (cn - kk)] X (fun e w' => ∃ u B, e = .returned u ∧ Y.heap.size ≤ B ∧ B ≤ w'.heap.size ∧ w'.ownsRow B 9 1 u (N.drop kk).length ((N.drop kk).map Value.string) ∧ (∀ b, u.ownBlock = some b → B ≤ b ∧ b < w'.heap.size) ∧ Keeps (fun _ => False) Y w')) := fun X Y hk hy =>
          (strsClone (N.drop kk) _ _ X (hD.keeps hk (fun _ _ h => h)) (by rw [List.length_drop]; omega)).mono fun e w' ⟨u, he, ho, hb⟩ => ⟨u, X.heap.size, he, hy.size, hb.size, ho, fun b hb => ho.lt b hb, hy.trans (Keeps.of_below (X := fun _ => False) hb) (fun _ _ h => h)⟩
        have HM := Lib.hid (show (N.drop kk).length + kk ≤ maxLen by rw [List.length_drop]; unfold maxLen; omega)
        have HBy := Lib.hid (show ((N.drop kk).length + kk) * 16 ≤ 140737488355328 by rw [List.length_drop]; omega)
        have HRA := Lib.hid hra
        have HRB := Lib.hid hrb
        have HSl := Lib.hid hSl2
        have HTk := Lib.hid hTk
        have HNs := Lib.hid hNs
        have HKl := Lib.hid hkl
        have hq : Keeps (fun _ => False) wc wc := Keeps.refl _ _
        clear hSl hSl2 hD hTk hra hrb hNs hkl
        go_upto_region 17 with fail
        go_cut [17, 18] (fun s17 s18 wd => ∃ g17 g18 Aa ca Ab cb, s17 = .pointer (some ⟨g17, 0, none⟩) ∧ s18 = .pointer (some ⟨g18, 0, none⟩) ∧ Blk wd g17 45 [.int .i64 ra.kind, .string ra.name, .int .i64 ra.var, .slice Aa ra.args.length ca] ∧ Blk wd g18 45 [.int .i64 rb.kind, .string rb.name, .int .i64 rb.var, .slice Ab rb.args.length cb] ∧ TyC wd (fun b => b < wd.heap.size) ra (.slice Aa ra.args.length ca) ∧ TyC wd (fun b => b < wd.heap.size) rb (.slice Ab rb.args.length cb) ∧ Keeps (fun _ => False) wc wd)
        case first =>
          refine wp_region_noPanic ?_
          refine wp_region_till [] (fun X => True) (by kernel_rfl) ?_ (fun hE => ?_)
          · trivial
          have hS := hE (by kernel_rfl)
          refine wpAnyT_pure (i := 0) (oi := { dst := some 73, op := Op.move (Operand.tmp 15), type := 65, pos := "types.go:415", after := #[], guard := none }) (v := ?v17_0_1) rfl (by kernel_rfl) (fun _ _ _ h => h) (Or.inl ⟨by rfl, ?y17_0_1⟩) (fun _ => hS) ?_
          case y17_0_1 => (intro w hSw; go_simp; try with_reducible rfl)
          try simp only [Act.put, List.setIfInBounds_toArray, List.set_cons_zero, List.set_cons_succ]
          refine wpAnyT_pure (i := 1) (oi := { dst := some 74, op := Op.move (Operand.tmp 12), type := 63, pos := "types.go:415", after := #[], guard := none }) (v := ?v17_1_2) rfl (by kernel_rfl) (fun _ _ _ h => h) (Or.inl ⟨by rfl, ?y17_1_2⟩) (fun _ => hS) ?_
          case y17_1_2 => (intro w hSw; go_simp; try with_reducible rfl)
          try simp only [Act.put, List.setIfInBounds_toArray, List.set_cons_zero, List.set_cons_succ]
          refine wpAnyT_pure (i := 3) (oi := { dst := some 76, op := Op.move (Operand.tmp 15), type := 65, pos := "types.go:415", after := #[], guard := none }) (v := ?v17_3_3) rfl (by kernel_rfl) (fun _ _ _ h => h) (Or.inl ⟨by rfl, ?y17_3_3⟩) (fun _ => hS) ?_
          case y17_3_3 => (intro w hSw; go_simp; try with_reducible rfl)
          try simp only [Act.put, List.setIfInBounds_toArray, List.set_cons_zero, List.set_cons_succ]
          refine wpAnyT_pure (i := 4) (oi := { dst := some 77, op := Op.move (Operand.tmp 12), type := 63, pos := "types.go:415", after := #[], guard := none }) (v := ?v17_4_4) rfl (by kernel_rfl) (fun _ _ _ h => h) (Or.inl ⟨by rfl, ?y17_4_4⟩) (fun _ => hS) ?_
          case y17_4_4 => (intro w hSw; go_simp; try with_reducible rfl)
          try simp only [Act.put, List.setIfInBounds_toArray, List.set_cons_zero, List.set_cons_succ]
          refine wpAnyT_pure (i := 5) (oi := { dst := some 78, op := Op.move (Operand.tmp 16), type := 3, pos := "types.go:415", after := #[], guard := none }) (v := ?v17_5_5) rfl (by kernel_rfl) (fun _ _ _ h => h) (Or.inl ⟨by rfl, ?y17_5_5⟩) (fun _ => hS) ?_
          case y17_5_5 => (intro w hSw; go_simp; try with_reducible rfl)
          try simp only [Act.put, List.setIfInBounds_toArray, List.set_cons_zero, List.set_cons_succ]
          refine wpAnyT_pure (i := 6) (oi := { dst := some 79, op := Op.slice 63 (Operand.tmp 77) (some (Operand.tmp 78)) none none, type := 63, pos := "types.go:415", after := #[⟨4, .data⟩, ⟨5, .data⟩], guard := none }) (v := .slice A2 (N.length - kk) (cn - kk)) rfl (by kernel_rfl) (fun _ _ _ h => h) (Or.inl ⟨by rfl, ?y17_6_6⟩) (fun _ => hS) ?_
          case y17_6_6 => (intro w hSw; go_simp; try exact hA2)
          try simp only [Act.put, List.setIfInBounds_toArray, List.set_cons_zero, List.set_cons_succ]
          refine wpAnyT_pure (i := 8) (oi := { dst := some 81, op := Op.move (Operand.tmp 12), type := 63, pos := "types.go:415", after := #[], guard := none }) (v := ?v17_8_7) rfl (by kernel_rfl) (fun _ _ _ h => h) (Or.inl ⟨by rfl, ?y17_8_7⟩) (fun _ => hS) ?_
          case y17_8_7 => (intro w hSw; go_simp; try with_reducible rfl)
          try simp only [Act.put, List.setIfInBounds_toArray, List.set_cons_zero, List.set_cons_succ]
          refine wpAnyT_pure (i := 9) (oi := { dst := some 82, op := Op.move (Operand.tmp 16), type := 3, pos := "types.go:415", after := #[], guard := none }) (v := ?v17_9_8) rfl (by kernel_rfl) (fun _ _ _ h => h) (Or.inl ⟨by rfl, ?y17_9_8⟩) (fun _ => hS) ?_
          case y17_9_8 => (intro w hSw; go_simp; try with_reducible rfl)
          try simp only [Act.put, List.setIfInBounds_toArray, List.set_cons_zero, List.set_cons_succ]
          refine wpAnyT_pure (i := 10) (oi := { dst := some 83, op := Op.slice 63 (Operand.tmp 81) none (some (Operand.tmp 82)) none, type := 63, pos := "types.go:415", after := #[⟨8, .data⟩, ⟨9, .data⟩], guard := none }) (v := .slice An kk cn) rfl (by kernel_rfl) (fun _ _ _ h => h) (Or.inl ⟨by rfl, ?y17_10_9⟩) (fun _ => hS) ?_
          case y17_10_9 => (intro w hSw; (go_simp; try with_reducible rfl))
          try simp only [Act.put, List.setIfInBounds_toArray, List.set_cons_zero, List.set_cons_succ]
          refine wpAnyT_ready (rs := [2, 13, 14]) (by kernel_rfl) rfl ?_
          refine AllT.cons (o := { dst := some 75, op := Op.call { callee := Callee.value (Operand.tmp 73), args := #[Operand.tmp 74], argTypes := #[63] }, type := 45, pos := "types.go:415", after := #[⟨0, .data⟩, ⟨1, .data⟩], guard := none }) rfl (fun K hK => ?_) ?_
          · (go_simp; go_at_call 35; refine (build2 N _ ra HRA.out _ wc ((HSl.out.keeps hq (fun _ _ h => h)).mono (fun b hb => Nat.lt_of_lt_of_le hb hq.size)) (by repeat (first | (with_reducible exact Keeps.refl _ _) | (with_reducible refine Keeps.drewN ?_ _) | with_reducible refine Keeps.drew ?_))).mono ?_; rintro e x1 ⟨Aa, ca, rfl, hTa, hk1⟩; have hs1 := hk1.size; have hq := hq.trans hk1 (fun _ _ h => h); go_wp2_with fail)
            refine hK.out _ _ (fun _ => ?_) (fun hE => ?_)
            · trivial
            have hS := hE (by kernel_rfl)
            clear hK K hE
            try simp only [Act.put, List.setIfInBounds_toArray, List.set_cons_zero, List.set_cons_succ]
            refine wpAnyT_ready (rs := [7, 13, 14]) (by kernel_rfl) rfl ?_
            refine AllT.cons (o := { dst := some 80, op := Op.call { callee := Callee.value (Operand.func 36), args := #[Operand.tmp 79], argTypes := #[63] }, type := 63, pos := "types.go:415", after := #[⟨6, .data⟩, ⟨2, .chain⟩], guard := none }) rfl (fun K hK => ?_) ?_
            · (go_simp; go_at_call 36; refine (HCl.out _ x1 (hq.trans (by repeat (first | (with_reducible exact Keeps.refl _ _) | (with_reducible refine Keeps.drewN ?_ _) | with_reducible refine Keeps.drew ?_)) (fun _ _ h => h)) (by repeat (first | (with_reducible exact Keeps.refl _ _) | (with_reducible refine Keeps.drewN ?_ _) | with_reducible refine Keeps.drew ?_))).mono ?_; rintro e x2 ⟨u, B, rfl, hBl, hBh, hown, hul, hk2⟩; have hTa := hTa.keeps hk2 (fun _ _ h => h); have hs2 := hk2.size; have hq := hq.trans hk2 (fun _ _ h => h); go_wp2_with fail)
              refine hK.out _ _ (fun _ => ?_) (fun hE => ?_)
              · trivial
              have hS := hE (by kernel_rfl)
              clear hK K hE
              try simp only [Act.put, List.setIfInBounds_toArray, List.set_cons_zero, List.set_cons_succ]
              refine wpAnyT_ready (rs := [11, 13, 14]) (by kernel_rfl) rfl ?_
              refine AllT.cons (o := { dst := some 84, op := Op.call { callee := Callee.builtin Builtin.append, args := #[Operand.tmp 80, Operand.tmp 83], argTypes := #[63, 63] }, type := 63, pos := "types.go:415", after := #[⟨7, .data⟩, ⟨10, .data⟩, ⟨7, .chain⟩], guard := none }) rfl (fun K hK => ?_) ?_
              · (have hBs : B ≤ x2.heap.size := (by omega); refine step_append_sl _ rfl (.tmp 80) (.tmp 83) 63 rfl B 9 i0 _ 1 16 Tryd.underlying63 hi0 hz0 hz1 hz2 rfl (by decide) u (N.drop kk).length _ rfl hown dStr dStr.wide _ (N.take kk) _ kk cn rfl (HTk.out.keeps hq (fun _ _ h => h)) HM.out HBy.out hBs ?_; intro nv x3 news hnews hnown hgrow hat; have hk3 : Keeps (fun i => u.ownBlock = some i) x2 x3 := (Keeps.refl _ _).grown hgrow (fun i h _ => h); have hnoT : ∀ i, (wc.heap.size ≤ i ∧ i < x1.heap.size) → ¬ u.ownBlock = some i := (fun i hi h => by have h9 := hul _ h; omega); have hnoQ : ∀ i, i < wc.heap.size → u.ownBlock = some i → False := (fun i hi h => by have h9 := hul _ h; have := hq.size; omega); have hTa := hTa.keeps hk3 hnoT; have hs3 := hk3.size; have hq := hq.trans hk3 hnoQ; have hnw := moved hnews hnown HNs.out HKl.out)
                refine hK.out _ _ (fun _ => ?_) (fun hE => ?_)
                · trivial
                have hS := hE (by kernel_rfl)
                clear hK K hE
                try simp only [Act.put, List.setIfInBounds_toArray, List.set_cons_zero, List.set_cons_succ]
                refine wpAnyT_ready (rs := [12, 13, 14]) (by kernel_rfl) rfl ?_
                refine AllT.cons (o := { dst := some 85, op := Op.call { callee := Callee.value (Operand.tmp 76), args := #[Operand.tmp 84], argTypes := #[63] }, type := 45, pos := "types.go:415", after := #[⟨3, .data⟩, ⟨11, .data⟩, ⟨11, .chain⟩], guard := none }) rfl (fun K hK => ?_) ?_
                · (go_simp; go_at_call 35; refine (build2 (N.drop kk ++ N.take kk) _ rb HRB.out _ x3 hnw (by repeat (first | (with_reducible exact Keeps.refl _ _) | (with_reducible refine Keeps.drewN ?_ _) | with_reducible refine Keeps.drew ?_))).mono ?_; rintro e x4 ⟨Ab, cb, rfl, hTb, hk4⟩; have hTa := hTa.keeps hk4 (fun _ _ h => h); have hs4 := hk4.size; have hq := hq.trans hk4 (fun _ _ h => h); go_wp2_with fail)
                  refine hK.out _ _ (fun _ => ?_) (fun hE => ?_)
                  · trivial
                  have hS := hE (by kernel_rfl)
                  clear hK K hE
                  try simp only [Act.put, List.setIfInBounds_toArray, List.set_cons_zero, List.set_cons_succ]
                  refine wpAnyT_ready (rs := [13, 14]) (by kernel_rfl) rfl ?_
                  refine AllT.cons (o := { dst := some 17, op := Op.alloc 45, type := 0, pos := "types.go:415", after := #[], guard := none }) rfl (fun K hK => ?_) ?_
                  · (go_simp; generalize hw13 : World.alloc _ _ = x5; have hb13 : Blk x5 x4.heap.size 45 [.int .i64 0, .string ⟨#[]⟩, .int .i64 0, .slice none 0 0] := (by rw [← hw13]; exact Blk.new _ _ _); have hk5 : Keeps (fun _ => False) x4 x5 := (by rw [← hw13]; repeat (first | (with_reducible exact Keeps.refl _ _) | (with_reducible refine Keeps.drewN ?_ _) | (with_reducible refine Keeps.drew ?_) | with_reducible refine Keeps.alloc ?_ _)); have hl13 := hb13.lt; have hTa := hTa.keeps hk5 (fun _ _ h => h); have hTb := hTb.keeps hk5 (fun _ _ h => h); have hs5 := hk5.size; have hq := hq.trans hk5 (fun _ _ h => h); clear hw13; obtain ⟨g13, hg13⟩ : ∃ g, x4.heap.size = g := ⟨_, rfl⟩; rw [hg13] at hb13 hl13 ⊢)
                    refine hK.out _ _ (fun _ => ?_) (fun hE => ?_)
                    · trivial
                    have hS := hE (by kernel_rfl)
                    clear hK K hE
                    try simp only [Act.put, List.setIfInBounds_toArray, List.set_cons_zero, List.set_cons_succ]
                    refine wpAnyT_ready (rs := [14]) (by kernel_rfl) rfl ?_
                    refine AllT.cons (o := { dst := some 18, op := Op.alloc 45, type := 0, pos := "types.go:415", after := #[], guard := none }) rfl (fun K hK => ?_) ?_
                    · (go_simp; generalize hw14 : World.alloc _ _ = x6; have hb14 : Blk x6 x5.heap.size 45 [.int .i64 0, .string ⟨#[]⟩, .int .i64 0, .slice none 0 0] := (by rw [← hw14]; exact Blk.new _ _ _); have hk6 : Keeps (fun _ => False) x5 x6 := (by rw [← hw14]; repeat (first | (with_reducible exact Keeps.refl _ _) | (with_reducible refine Keeps.drewN ?_ _) | (with_reducible refine Keeps.drew ?_) | with_reducible refine Keeps.alloc ?_ _)); have hl14 := hb14.lt; have hb13 := hb13.keeps hk6 (fun h => h); have hTa := hTa.keeps hk6 (fun _ _ h => h); have hTb := hTb.keeps hk6 (fun _ _ h => h); have hs6 := hk6.size; have hq := hq.trans hk6 (fun _ _ h => h); clear hw14; obtain ⟨g14, hg14⟩ : ∃ g, x5.heap.size = g := ⟨_, rfl⟩; rw [hg14] at hb14 hl14 ⊢)
                      refine hK.out _ _ (fun _ => ?_) (fun hE => ?_)
                      · trivial
                      have hS := hE (by kernel_rfl)
                      clear hK K hE
                      try simp only [Act.put, List.setIfInBounds_toArray, List.set_cons_zero, List.set_cons_succ]
                      refine wpAnyT_ready (rs := [15]) (by kernel_rfl) rfl ?_
                      refine AllT.cons (o := { dst := none, op := Op.store 45 (Operand.tmp 17) (Operand.tmp 75), type := 0, pos := "types.go:415", after := #[⟨13, .data⟩, ⟨2, .data⟩, ⟨12, .chain⟩, ⟨0, .phase⟩, ⟨1, .phase⟩, ⟨2, .phase⟩, ⟨3, .textOnly .lateStores⟩, ⟨4, .textOnly .lateStores⟩, ⟨5, .textOnly .lateStores⟩, ⟨6, .textOnly .lateStoresUnsure⟩, ⟨7, .textOnly .lateStoresUnsure⟩, ⟨8, .textOnly .lateStores⟩, ⟨9, .textOnly .lateStores⟩, ⟨10, .textOnly .lateStoresUnsure⟩, ⟨11, .textOnly .lateStoresUnsure⟩, ⟨12, .textOnly .lateStoresUnsure⟩, ⟨13, .phase⟩, ⟨14, .phase⟩], guard := none }) rfl (fun K hK => ?_) ?_
                      · (have c0 := hb13.cell (i := 0) rfl; have f0 := hb13.free 0; have c1 := hb13.cell (i := 1) rfl; have f1 := hb13.free 1; have c2 := hb13.cell (i := 2) rfl; have f2 := hb13.free 2; have c3 := hb13.cell (i := 3) rfl; have f3 := hb13.free 3; go_simp)
                        refine hK.out _ _ (fun _ => ?_) (fun hE => ?_)
                        · trivial
                        have hS := hE (by kernel_rfl)
                        clear hK K hE
                        try simp only [Act.put, List.setIfInBounds_toArray, List.set_cons_zero, List.set_cons_succ]
                        refine wpAnyT_ready (rs := [16]) (by kernel_rfl) rfl ?_
                        refine AllT.cons (o := { dst := none, op := Op.store 45 (Operand.tmp 18) (Operand.tmp 85), type := 0, pos := "types.go:415", after := #[⟨14, .data⟩, ⟨12, .data⟩, ⟨15, .chain⟩, ⟨0, .phase⟩, ⟨1, .phase⟩, ⟨2, .phase⟩, ⟨3, .phase⟩, ⟨4, .phase⟩, ⟨5, .phase⟩, ⟨6, .phase⟩, ⟨7, .phase⟩, ⟨8, .phase⟩, ⟨9, .phase⟩, ⟨10, .phase⟩, ⟨11, .phase⟩, ⟨12, .phase⟩, ⟨13, .phase⟩, ⟨14, .phase⟩, ⟨15, .phase⟩], guard := none }) rfl (fun K hK => ?_) ?_
                        · (obtain ⟨hbA, hkA⟩ := four hb13 (.int .i64 ra.kind) (.string ra.name) (.int .i64 ra.var) (.slice Aa ra.args.length ca); have hgg : g14 ≠ g13 := (by omega); have hb14A := hb14.keeps hkA hgg; clear c0 c1 c2 c3 f0 f1 f2 f3; have c0 := hb14A.cell (i := 0) rfl; have f0 := hb14A.free 0; have c1 := hb14A.cell (i := 1) rfl; have f1 := hb14A.free 1; have c2 := hb14A.cell (i := 2) rfl; have f2 := hb14A.free 2; have c3 := hb14A.cell (i := 3) rfl; have f3 := hb14A.free 3; go_simp)
                          refine hK.out _ _ (fun _ => ?_) (fun hE => ?_)
                          · trivial
                          have hS := hE (by kernel_rfl)
                          clear hK K hE
                          try simp only [Act.put, List.setIfInBounds_toArray, List.set_cons_zero, List.set_cons_succ]
                          refine wpAnyT_done (by kernel_rfl) ?_ _
                          refine NoPanic.normal ?_
                          obtain ⟨hbB, hkB⟩ := four hb14A (.int .i64 rb.kind) (.string rb.name) (.int .i64 rb.var) (.slice Ab rb.args.length cb)
                          have hgx : g13 < wc.heap.size → False := fun h => by have := hg13; omega
                          have hgy : g14 < wc.heap.size → False := fun h => by have := hg14; omega
                          have hTa := (hTa.keeps hkA (fun i hi h => by have h9 : i = g13 := h; omega)).keeps hkB (fun i hi h => by have h9 : i = g14 := h; omega)
                          have hTb := (hTb.keeps hkA (fun i hi h => by have h9 : i = g13 := h; omega)).keeps hkB (fun i hi h => by have h9 : i = g14 := h; omega)
                          have hq := (hq.trans hkA (fun i hi h => by have h9 : i = g13 := h; exact hgx (by omega))).trans hkB (fun i hi h => by have h9 : i = g14 := h; exact hgy (by omega))
                          have hsA := hkA.size
                          have hsB := hkB.size
                          go_wp2_with fail
                          go_meet
                          exact ⟨g13, g14, Aa, ca, Ab, cb, rfl, rfl, hbA.keeps hkB (fun h => hgg h.symm), hbB, hTa.mono (fun b hb => by omega), hTb.mono (fun b hb => by omega), hq⟩
                        exact AllT.nil
                      exact AllT.nil
                    exact AllT.nil
                  refine AllT.cons (o := { dst := some 18, op := Op.alloc 45, type := 0, pos := "types.go:415", after := #[], guard := none }) rfl (fun K hK => ?_) ?_
                  · (go_simp; generalize hw14 : World.alloc _ _ = x5; have hb14 : Blk x5 x4.heap.size 45 [.int .i64 0, .string ⟨#[]⟩, .int .i64 0, .slice none 0 0] := (by rw [← hw14]; exact Blk.new _ _ _); have hk5 : Keeps (fun _ => False) x4 x5 := (by rw [← hw14]; repeat (first | (with_reducible exact Keeps.refl _ _) | (with_reducible refine Keeps.drewN ?_ _) | (with_reducible refine Keeps.drew ?_) | with_reducible refine Keeps.alloc ?_ _)); have hl14 := hb14.lt; have hTa := hTa.keeps hk5 (fun _ _ h => h); have hTb := hTb.keeps hk5 (fun _ _ h => h); have hs5 := hk5.size; have hq := hq.trans hk5 (fun _ _ h => h); clear hw14; obtain ⟨g14, hg14⟩ : ∃ g, x4.heap.size = g := ⟨_, rfl⟩; rw [hg14] at hb14 hl14 ⊢)
                    refine hK.out _ _ (fun _ => ?_) (fun hE => ?_)
                    · trivial
                    have hS := hE (by kernel_rfl)
                    clear hK K hE
                    try simp only [Act.put, List.setIfInBounds_toArray, List.set_cons_zero, List.set_cons_succ]
                    refine wpAnyT_ready (rs := [13]) (by kernel_rfl) rfl ?_
                    refine AllT.cons (o := { dst := some 17, op := Op.alloc 45, type := 0, pos := "types.go:415", after := #[], guard := none }) rfl (fun K hK => ?_) ?_
                    · (go_simp; generalize hw13 : World.alloc _ _ = x6; have hb13 : Blk x6 x5.heap.size 45 [.int .i64 0, .string ⟨#[]⟩, .int .i64 0, .slice none 0 0] := (by rw [← hw13]; exact Blk.new _ _ _); have hk6 : Keeps (fun _ => False) x5 x6 := (by rw [← hw13]; repeat (first | (with_reducible exact Keeps.refl _ _) | (with_reducible refine Keeps.drewN ?_ _) | (with_reducible refine Keeps.drew ?_) | with_reducible refine Keeps.alloc ?_ _)); have hl13 := hb13.lt; have hb14 := hb14.keeps hk6 (fun h => h); have hTa := hTa.keeps hk6 (fun _ _ h => h); have hTb := hTb.keeps hk6 (fun _ _ h => h); have hs6 := hk6.size; have hq := hq.trans hk6 (fun _ _ h => h); clear hw13; obtain ⟨g13, hg13⟩ : ∃ g, x5.heap.size = g := ⟨_, rfl⟩; rw [hg13] at hb13 hl13 ⊢)
                      refine hK.out _ _ (fun _ => ?_) (fun hE => ?_)
                      · trivial
                      have hS := hE (by kernel_rfl)
                      clear hK K hE
                      try simp only [Act.put, List.setIfInBounds_toArray, List.set_cons_zero, List.set_cons_succ]
                      refine wpAnyT_ready (rs := [15]) (by kernel_rfl) rfl ?_
                      refine AllT.cons (o := { dst := none, op := Op.store 45 (Operand.tmp 17) (Operand.tmp 75), type := 0, pos := "types.go:415", after := #[⟨13, .data⟩, ⟨2, .data⟩, ⟨12, .chain⟩, ⟨0, .phase⟩, ⟨1, .phase⟩, ⟨2, .phase⟩, ⟨3, .textOnly .lateStores⟩, ⟨4, .textOnly .lateStores⟩, ⟨5, .textOnly .lateStores⟩, ⟨6, .textOnly .lateStoresUnsure⟩, ⟨7, .textOnly .lateStoresUnsure⟩, ⟨8, .textOnly .lateStores⟩, ⟨9, .textOnly .lateStores⟩, ⟨10, .textOnly .lateStoresUnsure⟩, ⟨11, .textOnly .lateStoresUnsure⟩, ⟨12, .textOnly .lateStoresUnsure⟩, ⟨13, .phase⟩, ⟨14, .phase⟩], guard := none }) rfl (fun K hK => ?_) ?_
                      · (have c0 := hb13.cell (i := 0) rfl; have f0 := hb13.free 0; have c1 := hb13.cell (i := 1) rfl; have f1 := hb13.free 1; have c2 := hb13.cell (i := 2) rfl; have f2 := hb13.free 2; have c3 := hb13.cell (i := 3) rfl; have f3 := hb13.free 3; go_simp)
                        refine hK.out _ _ (fun _ => ?_) (fun hE => ?_)
                        · trivial
                        have hS := hE (by kernel_rfl)
                        clear hK K hE
                        try simp only [Act.put, List.setIfInBounds_toArray, List.set_cons_zero, List.set_cons_succ]
                        refine wpAnyT_ready (rs := [16]) (by kernel_rfl) rfl ?_
                        refine AllT.cons (o := { dst := none, op := Op.store 45 (Operand.tmp 18) (Operand.tmp 85), type := 0, pos := "types.go:415", after := #[⟨14, .data⟩, ⟨12, .data⟩, ⟨15, .chain⟩, ⟨0, .phase⟩, ⟨1, .phase⟩, ⟨2, .phase⟩, ⟨3, .phase⟩, ⟨4, .phase⟩, ⟨5, .phase⟩, ⟨6, .phase⟩, ⟨7, .phase⟩, ⟨8, .phase⟩, ⟨9, .phase⟩, ⟨10, .phase⟩, ⟨11, .phase⟩, ⟨12, .phase⟩, ⟨13, .phase⟩, ⟨14, .phase⟩, ⟨15, .phase⟩], guard := none }) rfl (fun K hK => ?_) ?_
                        · (obtain ⟨hbA, hkA⟩ := four hb13 (.int .i64 ra.kind) (.string ra.name) (.int .i64 ra.var) (.slice Aa ra.args.length ca); have hgg : g14 ≠ g13 := (by omega); have hb14A := hb14.keeps hkA hgg; clear c0 c1 c2 c3 f0 f1 f2 f3; have c0 := hb14A.cell (i := 0) rfl; have f0 := hb14A.free 0; have c1 := hb14A.cell (i := 1) rfl; have f1 := hb14A.free 1; have c2 := hb14A.cell (i := 2) rfl; have f2 := hb14A.free 2; have c3 := hb14A.cell (i := 3) rfl; have f3 := hb14A.free 3; go_simp)
                          refine hK.out _ _ (fun _ => ?_) (fun hE => ?_)
                          · trivial
                          have hS := hE (by kernel_rfl)
                          clear hK K hE
                          try simp only [Act.put, List.setIfInBounds_toArray, List.set_cons_zero, List.set_cons_succ]
                          refine wpAnyT_done (by kernel_rfl) ?_ _
                          refine NoPanic.normal ?_
                          obtain ⟨hbB, hkB⟩ := four hb14A (.int .i64 rb.kind) (.string rb.name) (.int .i64 rb.var) (.slice Ab rb.args.length cb)
                          have hgx : g13 < wc.heap.size → False := fun h => by have := hg13; omega
                          have hgy : g14 < wc.heap.size → False := fun h => by have := hg14; omega
                          have hTa := (hTa.keeps hkA (fun i hi h => by have h9 : i = g13 := h; omega)).keeps hkB (fun i hi h => by have h9 : i = g14 := h; omega)
                          have hTb := (hTb.keeps hkA (fun i hi h => by have h9 : i = g13 := h; omega)).keeps hkB (fun i hi h => by have h9 : i = g14 := h; omega)
                          have hq := (hq.trans hkA (fun i hi h => by have h9 : i = g13 := h; exact hgx (by omega))).trans hkB (fun i hi h => by have h9 : i = g14 := h; exact hgy (by omega))
                          have hsA := hkA.size
                          have hsB := hkB.size
                          go_wp2_with fail
                          go_meet
                          exact ⟨g13, g14, Aa, ca, Ab, cb, rfl, rfl, hbA.keeps hkB (fun h => hgg h.symm), hbB, hTa.mono (fun b hb => by omega), hTb.mono (fun b hb => by omega), hq⟩
                        exact AllT.nil
                      exact AllT.nil
                    exact AllT.nil
                  exact AllT.nil
                refine AllT.cons (o := { dst := some 17, op := Op.alloc 45, type := 0, pos := "types.go:415", after := #[], guard := none }) rfl (fun K hK => ?_) ?_
                · (go_simp; generalize hw13 : World.alloc _ _ = x4; have hb13 : Blk x4 x3.heap.size 45 [.int .i64 0, .string ⟨#[]⟩, .int .i64 0, .slice none 0 0] := (by rw [← hw13]; exact Blk.new _ _ _); have hk4 : Keeps (fun _ => False) x3 x4 := (by rw [← hw13]; repeat (first | (with_reducible exact Keeps.refl _ _) | (with_reducible refine Keeps.drewN ?_ _) | (with_reducible refine Keeps.drew ?_) | with_reducible refine Keeps.alloc ?_ _)); have hl13 := hb13.lt; have hTa := hTa.keeps hk4 (fun _ _ h => h); have hnw : Sl x4 (fun b => b < x4.heap.size) dStr _ _ := (hnw.keeps hk4 (fun _ _ h => h)).mono (fun b hb => Nat.lt_of_lt_of_le hb hk4.size); have hs4 := hk4.size; have hq := hq.trans hk4 (fun _ _ h => h); clear hw13; obtain ⟨g13, hg13⟩ : ∃ g, x3.heap.size = g := ⟨_, rfl⟩; rw [hg13] at hb13 hl13 ⊢)
                  refine hK.out _ _ (fun _ => ?_) (fun hE => ?_)
                  · trivial
                  have hS := hE (by kernel_rfl)
                  clear hK K hE
                  try simp only [Act.put, List.setIfInBounds_toArray, List.set_cons_zero, List.set_cons_succ]
                  refine wpAnyT_ready (rs := [12, 14]) (by kernel_rfl) rfl ?_
                  refine AllT.cons (o := { dst := some 85, op := Op.call { callee := Callee.value (Operand.tmp 76), args := #[Operand.tmp 84], argTypes := #[63] }, type := 45, pos := "types.go:415", after := #[⟨3, .data⟩, ⟨11, .data⟩, ⟨11, .chain⟩], guard := none }) rfl (fun K hK => ?_) ?_
                  · (go_simp; go_at_call 35; refine (build2 (N.drop kk ++ N.take kk) _ rb HRB.out _ x4 hnw (by repeat (first | (with_reducible exact Keeps.refl _ _) | (with_reducible refine Keeps.drewN ?_ _) | with_reducible refine Keeps.drew ?_))).mono ?_; rintro e x5 ⟨Ab, cb, rfl, hTb, hk5⟩; have hb13 := hb13.keeps hk5 (fun h => h); have hTa := hTa.keeps hk5 (fun _ _ h => h); have hs5 := hk5.size; have hq := hq.trans hk5 (fun _ _ h => h); go_wp2_with fail)
                    refine hK.out _ _ (fun _ => ?_) (fun hE => ?_)
                    · trivial
                    have hS := hE (by kernel_rfl)
                    clear hK K hE
                    try simp only [Act.put, List.setIfInBounds_toArray, List.set_cons_zero, List.set_cons_succ]
                    refine wpAnyT_ready (rs := [14]) (by kernel_rfl) rfl ?_
                    refine AllT.cons (o := { dst := some 18, op := Op.alloc 45, type := 0, pos := "types.go:415", after := #[], guard := none }) rfl (fun K hK => ?_) ?_
                    · (go_simp; generalize hw14 : World.alloc _ _ = x6; have hb14 : Blk x6 x5.heap.size 45 [.int .i64 0, .string ⟨#[]⟩, .int .i64 0, .slice none 0 0] := (by rw [← hw14]; exact Blk.new _ _ _); have hk6 : Keeps (fun _ => False) x5 x6 := (by rw [← hw14]; repeat (first | (with_reducible exact Keeps.refl _ _) | (with_reducible refine Keeps.drewN ?_ _) | (with_reducible refine Keeps.drew ?_) | with_reducible refine Keeps.alloc ?_ _)); have hl14 := hb14.lt; have hb13 := hb13.keeps hk6 (fun h => h); have hTa := hTa.keeps hk6 (fun _ _ h => h); have hTb := hTb.keeps hk6 (fun _ _ h => h); have hs6 := hk6.size; have hq := hq.trans hk6 (fun _ _ h => h); clear hw14; obtain ⟨g14, hg14⟩ : ∃ g, x5.heap.size = g := ⟨_, rfl⟩; rw [hg14] at hb14 hl14 ⊢)
                      refine hK.out _ _ (fun _ => ?_) (fun hE => ?_)
                      · trivial
                      have hS := hE (by kernel_rfl)
                      clear hK K hE
                      try simp only [Act.put, List.setIfInBounds_toArray, List.set_cons_zero, List.set_cons_succ]
                      refine wpAnyT_ready (rs := [15]) (by kernel_rfl) rfl ?_
                      refine AllT.cons (o := { dst := none, op := Op.store 45 (Operand.tmp 17) (Operand.tmp 75), type := 0, pos := "types.go:415", after := #[⟨13, .data⟩, ⟨2, .data⟩, ⟨12, .chain⟩, ⟨0, .phase⟩, ⟨1, .phase⟩, ⟨2, .phase⟩, ⟨3, .textOnly .lateStores⟩, ⟨4, .textOnly .lateStores⟩, ⟨5, .textOnly .lateStores⟩, ⟨6, .textOnly .lateStoresUnsure⟩, ⟨7, .textOnly .lateStoresUnsure⟩, ⟨8, .textOnly .lateStores⟩, ⟨9, .textOnly .lateStores⟩, ⟨10, .textOnly .lateStoresUnsure⟩, ⟨11, .textOnly .lateStoresUnsure⟩, ⟨12, .textOnly .lateStoresUnsure⟩, ⟨13, .phase⟩, ⟨14, .phase⟩], guard := none }) rfl (fun K hK => ?_) ?_
                      · (have c0 := hb13.cell (i := 0) rfl; have f0 := hb13.free 0; have c1 := hb13.cell (i := 1) rfl; have f1 := hb13.free 1; have c2 := hb13.cell (i := 2) rfl; have f2 := hb13.free 2; have c3 := hb13.cell (i := 3) rfl; have f3 := hb13.free 3; go_simp)
                        refine hK.out _ _ (fun _ => ?_) (fun hE => ?_)
                        · trivial
                        have hS := hE (by kernel_rfl)
                        clear hK K hE
                        try simp only [Act.put, List.setIfInBounds_toArray, List.set_cons_zero, List.set_cons_succ]
                        refine wpAnyT_ready (rs := [16]) (by kernel_rfl) rfl ?_
                        refine AllT.cons (o := { dst := none, op := Op.store 45 (Operand.tmp 18) (Operand.tmp 85), type := 0, pos := "types.go:415", after := #[⟨14, .data⟩, ⟨12, .data⟩, ⟨15, .chain⟩, ⟨0, .phase⟩, ⟨1, .phase⟩, ⟨2, .phase⟩, ⟨3, .phase⟩, ⟨4, .phase⟩, ⟨5, .phase⟩, ⟨6, .phase⟩, ⟨7, .phase⟩, ⟨8, .phase⟩, ⟨9, .phase⟩, ⟨10, .phase⟩, ⟨11, .phase⟩, ⟨12, .phase⟩, ⟨13, .phase⟩, ⟨14, .phase⟩, ⟨15, .phase⟩], guard := none }) rfl (fun K hK => ?_) ?_
                        · (obtain ⟨hbA, hkA⟩ := four hb13 (.int .i64 ra.kind) (.string ra.name) (.int .i64 ra.var) (.slice Aa ra.args.length ca); have hgg : g14 ≠ g13 := (by omega); have hb14A := hb14.keeps hkA hgg; clear c0 c1 c2 c3 f0 f1 f2 f3; have c0 := hb14A.cell (i := 0) rfl; have f0 := hb14A.free 0; have c1 := hb14A.cell (i := 1) rfl; have f1 := hb14A.free 1; have c2 := hb14A.cell (i := 2) rfl; have f2 := hb14A.free 2; have c3 := hb14A.cell (i := 3) rfl; have f3 := hb14A.free 3; go_simp)
                          refine hK.out _ _ (fun _ => ?_) (fun hE => ?_)
                          · trivial
                          have hS := hE (by kernel_rfl)
                          clear hK K hE
                          try simp only [Act.put, List.setIfInBounds_toArray, List.set_cons_zero, List.set_cons_succ]
                          refine wpAnyT_done (by kernel_rfl) ?_ _
                          refine NoPanic.normal ?_
                          obtain ⟨hbB, hkB⟩ := four hb14A (.int .i64 rb.kind) (.string rb.name) (.int .i64 rb.var) (.slice Ab rb.args.length cb)
                          have hgx : g13 < wc.heap.size → False := fun h => by have := hg13; omega
                          have hgy : g14 < wc.heap.size → False := fun h => by have := hg14; omega
                          have hTa := (hTa.keeps hkA (fun i hi h => by have h9 : i = g13 := h; omega)).keeps hkB (fun i hi h => by have h9 : i = g14 := h; omega)
                          have hTb := (hTb.keeps hkA (fun i hi h => by have h9 : i = g13 := h; omega)).keeps hkB (fun i hi h => by have h9 : i = g14 := h; omega)
                          have hq := (hq.trans hkA (fun i hi h => by have h9 : i = g13 := h; exact hgx (by omega))).trans hkB (fun i hi h => by have h9 : i = g14 := h; exact hgy (by omega))
                          have hsA := hkA.size
                          have hsB := hkB.size
                          go_wp2_with fail
                          go_meet
                          exact ⟨g13, g14, Aa, ca, Ab, cb, rfl, rfl, hbA.keeps hkB (fun h => hgg h.symm), hbB, hTa.mono (fun b hb => by omega), hTb.mono (fun b hb => by omega), hq⟩
                        exact AllT.nil
                      exact AllT.nil
                    exact AllT.nil
                  refine AllT.cons (o := { dst := some 18, op := Op.alloc 45, type := 0, pos := "types.go:415", after := #[], guard := none }) rfl (fun K hK => ?_) ?_
                  · (go_simp; generalize hw14 : World.alloc _ _ = x5; have hb14 : Blk x5 x4.heap.size 45 [.int .i64 0, .string ⟨#[]⟩, .int .i64 0, .slice none 0 0] := (by rw [← hw14]; exact Blk.new _ _ _); have hk5 : Keeps (fun _ => False) x4 x5 := (by rw [← hw14]; repeat (first | (with_reducible exact Keeps.refl _ _) | (with_reducible refine Keeps.drewN ?_ _) | (with_reducible refine Keeps.drew ?_) | with_reducible refine Keeps.alloc ?_ _)); have hl14 := hb14.lt; have hb13 := hb13.keeps hk5 (fun h => h); have hTa := hTa.keeps hk5 (fun _ _ h => h); have hnw : Sl x5 (fun b => b < x5.heap.size) dStr _ _ := (hnw.keeps hk5 (fun _ _ h => h)).mono (fun b hb => Nat.lt_of_lt_of_le hb hk5.size); have hs5 := hk5.size; have hq := hq.trans hk5 (fun _ _ h => h); clear hw14; obtain ⟨g14, hg14⟩ : ∃ g, x4.heap.size = g := ⟨_, rfl⟩; rw [hg14] at hb14 hl14 ⊢)
                    refine hK.out _ _ (fun _ => ?_) (fun hE => ?_)
                    · trivial
                    have hS := hE (by kernel_rfl)
                    clear hK K hE
                    try simp only [Act.put, List.setIfInBounds_toArray, List.set_cons_zero, List.set_cons_succ]
                    refine wpAnyT_ready (rs := [12]) (by kernel_rfl) rfl ?_
                    refine AllT.cons (o := { dst := some 85, op := Op.call { callee := Callee.value (Operand.tmp 76), args := #[Operand.tmp 84], argTypes := #[63] }, type := 45, pos := "types.go:415", after := #[⟨3, .data⟩, ⟨11, .data⟩, ⟨11, .chain⟩], guard := none }) rfl (fun K hK => ?_) ?_
                    · (go_simp; go_at_call 35; refine (build2 (N.drop kk ++ N.take kk) _ rb HRB.out _ x5 hnw (by repeat (first | (with_reducible exact Keeps.refl _ _) | (with_reducible refine Keeps.drewN ?_ _) | with_reducible refine Keeps.drew ?_))).mono ?_; rintro e x6 ⟨Ab, cb, rfl, hTb, hk6⟩; have hb13 := hb13.keeps hk6 (fun h => h); have hb14 := hb14.keeps hk6 (fun h => h); have hTa := hTa.keeps hk6 (fun _ _ h => h); have hs6 := hk6.size; have hq := hq.trans hk6 (fun _ _ h => h); go_wp2_with fail)
                      refine hK.out _ _ (fun _ => ?_) (fun hE => ?_)
                      · trivial
                      have hS := hE (by kernel_rfl)
                      clear hK K hE
                      try simp only [Act.put, List.setIfInBounds_toArray, List.set_cons_zero, List.set_cons_succ]
                      refine wpAnyT_ready (rs := [15]) (by kernel_rfl) rfl ?_
                      refine AllT.cons (o := { dst := none, op := Op.store 45 (Operand.tmp 17) (Operand.tmp 75), type := 0, pos := "types.go:415", after := #[⟨13, .data⟩, ⟨2, .data⟩, ⟨12, .chain⟩, ⟨0, .phase⟩, ⟨1, .phase⟩, ⟨2, .phase⟩, ⟨3, .textOnly .lateStores⟩, ⟨4, .textOnly .lateStores⟩, ⟨5, .textOnly .lateStores⟩, ⟨6, .textOnly .lateStoresUnsure⟩, ⟨7, .textOnly .lateStoresUnsure⟩, ⟨8, .textOnly .lateStores⟩, ⟨9, .textOnly .lateStores⟩, ⟨10, .textOnly .lateStoresUnsure⟩, ⟨11, .textOnly .lateStoresUnsure⟩, ⟨12, .textOnly .lateStoresUnsure⟩, ⟨13, .phase⟩, ⟨14, .phase⟩], guard := none }) rfl (fun K hK => ?_) ?_
                      · (have c0 := hb13.cell (i := 0) rfl; have f0 := hb13.free 0; have c1 := hb13.cell (i := 1) rfl; have f1 := hb13.free 1; have c2 := hb13.cell (i := 2) rfl; have f2 := hb13.free 2; have c3 := hb13.cell (i := 3) rfl; have f3 := hb13.free 3; go_simp)
                        refine hK.out _ _ (fun _ => ?_) (fun hE => ?_)
                        · trivial
                        have hS := hE (by kernel_rfl)
                        clear hK K hE
                        try simp only [Act.put, List.setIfInBounds_toArray, List.set_cons_zero, List.set_cons_succ]
                        refine wpAnyT_ready (rs := [16]) (by kernel_rfl) rfl ?_
                        refine AllT.cons (o := { dst := none, op := Op.store 45 (Operand.tmp 18) (Operand.tmp 85), type := 0, pos := "types.go:415", after := #[⟨14, .data⟩, ⟨12, .data⟩, ⟨15, .chain⟩, ⟨0, .phase⟩, ⟨1, .phase⟩, ⟨2, .phase⟩, ⟨3, .phase⟩, ⟨4, .phase⟩, ⟨5, .phase⟩, ⟨6, .phase⟩, ⟨7, .phase⟩, ⟨8, .phase⟩, ⟨9, .phase⟩, ⟨10, .phase⟩, ⟨11, .phase⟩, ⟨12, .phase⟩, ⟨13, .phase⟩, ⟨14, .phase⟩, ⟨15, .phase⟩], guard := none }) rfl (fun K hK => ?_) ?_
                        · (obtain ⟨hbA, hkA⟩ := four hb13 (.int .i64 ra.kind) (.string ra.name) (.int .i64 ra.var) (.slice Aa ra.args.length ca); have hgg : g14 ≠ g13 := (by omega); have hb14A := hb14.keeps hkA hgg; clear c0 c1 c2 c3 f0 f1 f2 f3; have c0 := hb14A.cell (i := 0) rfl; have f0 := hb14A.free 0; have c1 := hb14A.cell (i := 1) rfl; have f1 := hb14A.free 1; have c2 := hb14A.cell (i := 2) rfl; have f2 := hb14A.free 2; have c3 := hb14A.cell (i := 3) rfl; have f3 := hb14A.free 3; go_simp)
                          refine hK.out _ _ (fun _ => ?_) (fun hE => ?_)
                          · trivial
                          have hS := hE (by kernel_rfl)
                          clear hK K hE
                          try simp only [Act.put, List.setIfInBounds_toArray, List.set_cons_zero, List.set_cons_succ]
                          refine wpAnyT_done (by kernel_rfl) ?_ _
                          refine NoPanic.normal ?_
                          obtain ⟨hbB, hkB⟩ := four hb14A (.int .i64 rb.kind) (.string rb.name) (.int .i64 rb.var) (.slice Ab rb.args.length cb)
                          have hgx : g13 < wc.heap.size → False := fun h => by have := hg13; omega
                          have hgy : g14 < wc.heap.size → False := fun h => by have := hg14; omega
                          have hTa := (hTa.keeps hkA (fun i hi h => by have h9 : i = g13 := h; omega)).keeps hkB (fun i hi h => by have h9 : i = g14 := h; omega)
                          have hTb := (hTb.keeps hkA (fun i hi h => by have h9 : i = g13 := h; omega)).keeps hkB (fun i hi h => by have h9 : i = g14 := h; omega)
                          have hq := (hq.trans hkA (fun i hi h => by have h9 : i = g13 := h; exact hgx (by omega))).trans hkB (fun i hi h => by have h9 : i = g14 := h; exact hgy (by omega))
                          have hsA := hkA.size
                          have hsB := hkB.size
                          go_wp2_with fail
                          go_meet
                          exact ⟨g13, g14, Aa, ca, Ab, cb, rfl, rfl, hbA.keeps hkB (fun h => hgg h.symm), hbB, hTa.mono (fun b hb => by omega), hTb.mono (fun b hb => by omega), hq⟩
                        exact AllT.nil
                      exact AllT.nil
                    exact AllT.nil
                  exact AllT.nil
                refine AllT.cons (o := { dst := some 18, op := Op.alloc 45, type := 0, pos := "types.go:415", after := #[], guard := none }) rfl (fun K hK => ?_) ?_
                · (go_simp; generalize hw14 : World.alloc _ _ = x4; have hb14 : Blk x4 x3.heap.size 45 [.int .i64 0, .string ⟨#[]⟩, .int .i64 0, .slice none 0 0] := (by rw [← hw14]; exact Blk.new _ _ _); have hk4 : Keeps (fun _ => False) x3 x4 := (by rw [← hw14]; repeat (first | (with_reducible exact Keeps.refl _ _) | (with_reducible refine Keeps.drewN ?_ _) | (with_reducible refine Keeps.drew ?_) | with_reducible refine Keeps.alloc ?_ _)); have hl14 := hb14.lt; have hTa := hTa.keeps hk4 (fun _ _ h => h); have hnw : Sl x4 (fun b => b < x4.heap.size) dStr _ _ := (hnw.keeps hk4 (fun _ _ h => h)).mono (fun b hb => Nat.lt_of_lt_of_le hb hk4.size); have hs4 := hk4.size; have hq := hq.trans hk4 (fun _ _ h => h); clear hw14; obtain ⟨g14, hg14⟩ : ∃ g, x3.heap.size = g := ⟨_, rfl⟩; rw [hg14] at hb14 hl14 ⊢)
                  refine hK.out _ _ (fun _ => ?_) (fun hE => ?_)
                  · trivial
                  have hS := hE (by kernel_rfl)
                  clear hK K hE
                  try simp only [Act.put, List.setIfInBounds_toArray, List.set_cons_zero, List.set_cons_succ]
                  refine wpAnyT_ready (rs := [12, 13]) (by kernel_rfl) rfl ?_
                  refine AllT.cons (o := { dst := some 85, op := Op.call { callee := Callee.value (Operand.tmp 76), args := #[Operand.tmp 84], argTypes := #[63] }, type := 45, pos := "types.go:415", after := #[⟨3, .data⟩, ⟨11, .data⟩, ⟨11, .chain⟩], guard := none }) rfl (fun K hK => ?_) ?_
                  · (go_simp; go_at_call 35; refine (build2 (N.drop kk ++ N.take kk) _ rb HRB.out _ x4 hnw (by repeat (first | (with_reducible exact Keeps.refl _ _) | (with_reducible refine Keeps.drewN ?_ _) | with_reducible refine Keeps.drew ?_))).mono ?_; rintro e x5 ⟨Ab, cb, rfl, hTb, hk5⟩; have hb14 := hb14.keeps hk5 (fun h => h); have hTa := hTa.keeps hk5 (fun _ _ h => h); have hs5 := hk5.size; have hq := hq.trans hk5 (fun _ _ h => h); go_wp2_with fail)
                    refine hK.out _ _ (fun _ => ?_) (fun hE => ?_)
                    · trivial
                    have hS := hE (by kernel_rfl)
                    clear hK K hE
                    try simp only [Act.put, List.setIfInBounds_toArray, List.set_cons_zero, List.set_cons_succ]
                    refine wpAnyT_ready (rs := [13]) (by kernel_rfl) rfl ?_
                    refine AllT.cons (o := { dst := some 17, op := Op.alloc 45, type := 0, pos := "types.go:415", after := #[], guard := none }) rfl (fun K hK => ?_) ?_
                    · (go_simp; generalize hw13 : World.alloc _ _ = x6; have hb13 : Blk x6 x5.heap.size 45 [.int .i64 0, .string ⟨#[]⟩, .int .i64 0, .slice none 0 0] := (by rw [← hw13]; exact Blk.new _ _ _); have hk6 : Keeps (fun _ => False) x5 x6 := (by rw [← hw13]; repeat (first | (with_reducible exact Keeps.refl _ _) | (with_reducible refine Keeps.drewN ?_ _) | (with_reducible refine Keeps.drew ?_) | with_reducible refine Keeps.alloc ?_ _)); have hl13 := hb13.lt; have hb14 := hb14.keeps hk6 (fun h => h); have hTa := hTa.keeps hk6 (fun _ _ h => h); have hTb := hTb.keeps hk6 (fun _ _ h => h); have hs6 := hk6.size; have hq := hq.trans hk6 (fun _ _ h => h); clear hw13; obtain ⟨g13, hg13⟩ : ∃ g, x5.heap.size = g := ⟨_, rfl⟩; rw [hg13] at hb13 hl13 ⊢)
                      refine hK.out _ _ (fun _ => ?_) (fun hE => ?_)
                      · trivial
                      have hS := hE (by kernel_rfl)
                      clear hK K hE
                      try simp only [Act.put, List.setIfInBounds_toArray, List.set_cons_zero, List.set_cons_succ]
                      refine wpAnyT_ready (rs := [15]) (by kernel_rfl) rfl ?_
                      refine AllT.cons (o := { dst := none, op := Op.store 45 (Operand.tmp 17) (Operand.tmp 75), type := 0, pos := "types.go:415", after := #[⟨13, .data⟩, ⟨2, .data⟩, ⟨12, .chain⟩, ⟨0, .phase⟩, ⟨1, .phase⟩, ⟨2, .phase⟩, ⟨3, .textOnly .lateStores⟩, ⟨4, .textOnly .lateStores⟩, ⟨5, .textOnly .lateStores⟩, ⟨6, .textOnly .lateStoresUnsure⟩, ⟨7, .textOnly .lateStoresUnsure⟩, ⟨8, .textOnly .lateStores⟩, ⟨9, .textOnly .lateStores⟩, ⟨10, .textOnly .lateStoresUnsure⟩, ⟨11, .textOnly .lateStoresUnsure⟩, ⟨12, .textOnly .lateStoresUnsure⟩, ⟨13, .phase⟩, ⟨14, .phase⟩], guard := none }) rfl (fun K hK => ?_) ?_
                      · (have c0 := hb13.cell (i := 0) rfl; have f0 := hb13.free 0; have c1 := hb13.cell (i := 1) rfl; have f1 := hb13.free 1; have c2 := hb13.cell (i := 2) rfl; have f2 := hb13.free 2; have c3 := hb13.cell (i := 3) rfl; have f3 := hb13.free 3; go_simp)
                        refine hK.out _ _ (fun _ => ?_) (fun hE => ?_)
                        · trivial
                        have hS := hE (by kernel_rfl)
                        clear hK K hE
                        try simp only [Act.put, List.setIfInBounds_toArray, List.set_cons_zero, List.set_cons_succ]
                        refine wpAnyT_ready (rs := [16]) (by kernel_rfl) rfl ?_
                        refine AllT.cons (o := { dst := none, op := Op.store 45 (Operand.tmp 18) (Operand.tmp 85), type := 0, pos := "types.go:415", after := #[⟨14, .data⟩, ⟨12, .data⟩, ⟨15, .chain⟩, ⟨0, .phase⟩, ⟨1, .phase⟩, ⟨2, .phase⟩, ⟨3, .phase⟩, ⟨4, .phase⟩, ⟨5, .phase⟩, ⟨6, .phase⟩, ⟨7, .phase⟩, ⟨8, .phase⟩, ⟨9, .phase⟩, ⟨10, .phase⟩, ⟨11, .phase⟩, ⟨12, .phase⟩, ⟨13, .phase⟩, ⟨14, .phase⟩, ⟨15, .phase⟩], guard := none }) rfl (fun K hK => ?_) ?_
                        · (obtain ⟨hbA, hkA⟩ := four hb13 (.int .i64 ra.kind) (.string ra.name) (.int .i64 ra.var) (.slice Aa ra.args.length ca); have hgg : g14 ≠ g13 := (by omega); have hb14A := hb14.keeps hkA hgg; clear c0 c1 c2 c3 f0 f1 f2 f3; have c0 := hb14A.cell (i := 0) rfl; have f0 := hb14A.free 0; have c1 := hb14A.cell (i := 1) rfl; have f1 := hb14A.free 1; have c2 := hb14A.cell (i := 2) rfl; have f2 := hb14A.free 2; have c3 := hb14A.cell (i := 3) rfl; have f3 := hb14A.free 3; go_simp)
                          refine hK.out _ _ (fun _ => ?_) (fun hE => ?_)
                          · trivial
                          have hS := hE (by kernel_rfl)
                          clear hK K hE
                          try simp only [Act.put, List.setIfInBounds_toArray, List.set_cons_zero, List.set_cons_succ]
                          refine wpAnyT_done (by kernel_rfl) ?_ _
                          refine NoPanic.normal ?_
                          obtain ⟨hbB, hkB⟩ := four hb14A (.int .i64 rb.kind) (.string rb.name) (.int .i64 rb.var) (.slice Ab rb.args.length cb)
                          have hgx : g13 < wc.heap.size → False := fun h => by have := hg13; omega
                          have hgy : g14 < wc.heap.size → False := fun h => by have := hg14; omega
                          have hTa := (hTa.keeps hkA (fun i hi h => by have h9 : i = g13 := h; omega)).keeps hkB (fun i hi h => by have h9 : i = g14 := h; omega)
                          have hTb := (hTb.keeps hkA (fun i hi h => by have h9 : i = g13 := h; omega)).keeps hkB (fun i hi h => by have h9 : i = g14 := h; omega)
                          have hq := (hq.trans hkA (fun i hi h => by have h9 : i = g13 := h; exact hgx (by omega))).trans hkB (fun i hi h => by have h9 : i = g14 := h; exact hgy (by omega))
                          have hsA := hkA.size
                          have hsB := hkB.size
                          go_wp2_with fail
                          go_meet
                          exact ⟨g13, g14, Aa, ca, Ab, cb, rfl, rfl, hbA.keeps hkB (fun h => hgg h.symm), hbB, hTa.mono (fun b hb => by omega), hTb.mono (fun b hb => by omega), hq⟩
                        exact AllT.nil
                      exact AllT.nil
                    exact AllT.nil
                  refine AllT.cons (o := { dst := some 17, op := Op.alloc 45, type := 0, pos := "types.go:415", after := #[], guard := none }) rfl (fun K hK => ?_) ?_
                  · (go_simp; generalize hw13 : World.alloc _ _ = x5; have hb13 : Blk x5 x4.heap.size 45 [.int .i64 0, .string ⟨#[]⟩, .int .i64 0, .slice none 0 0] := (by rw [← hw13]; exact Blk.new _ _ _); have hk5 : Keeps (fun _ => False) x4 x5 := (by rw [← hw13]; repeat (first | (with_reducible exact Keeps.refl _ _) | (with_reducible refine Keeps.drewN ?_ _) | (with_reducible refine Keeps.drew ?_) | with_reducible refine Keeps.alloc ?_ _)); have hl13 := hb13.lt; have hb14 := hb14.keeps hk5 (fun h => h); have hTa := hTa.keeps hk5 (fun _ _ h => h); have hnw : Sl x5 (fun b => b < x5.heap.size) dStr _ _ := (hnw.keeps hk5 (fun _ _ h => h)).mono (fun b hb => Nat.lt_of_lt_of_le hb hk5.size); have hs5 := hk5.size; have hq := hq.trans hk5 (fun _ _ h => h); clear hw13; obtain ⟨g13, hg13⟩ : ∃ g, x4.heap.size = g := ⟨_, rfl⟩; rw [hg13] at hb13 hl13 ⊢)
                    refine hK.out _ _ (fun _ => ?_) (fun hE => ?_)
                    · trivial
                    have hS := hE (by kernel_rfl)
                    clear hK K hE
                    try simp only [Act.put, List.setIfInBounds_toArray, List.set_cons_zero, List.set_cons_succ]
                    refine wpAnyT_ready (rs := [12]) (by kernel_rfl) rfl ?_
                    refine AllT.cons (o := { dst := some 85, op := Op.call { callee := Callee.value (Operand.tmp 76), args := #[Operand.tmp 84], argTypes := #[63] }, type := 45, pos := "types.go:415", after := #[⟨3, .data⟩, ⟨11, .data⟩, ⟨11, .chain⟩], guard := none }) rfl (fun K hK => ?_) ?_
                    · (go_simp; go_at_call 35; refine (build2 (N.drop kk ++ N.take kk) _ rb HRB.out _ x5 hnw (by repeat (first | (with_reducible exact Keeps.refl _ _) | (with_reducible refine Keeps.drewN ?_ _) | with_reducible refine Keeps.drew ?_))).mono ?_; rintro e x6 ⟨Ab, cb, rfl, hTb, hk6⟩; have hb13 := hb13.keeps hk6 (fun h => h); have hb14 := hb14.keeps hk6 (fun h => h); have hTa := hTa.keeps hk6 (fun _ _ h => h); have hs6 := hk6.size; have hq := hq.trans hk6 (fun _ _ h => h); go_wp2_with fail)
                      refine hK.out _ _ (fun _ => ?_) (fun hE => ?_)
                      · trivial
                      have hS := hE (by kernel_rfl)
                      clear hK K hE
                      try simp only [Act.put, List.setIfInBounds_toArray, List.set_cons_zero, List.set_cons_succ]
                      refine wpAnyT_ready (rs := [15]) (by kernel_rfl) rfl ?_
                      refine AllT.cons (o := { dst := none, op := Op.store 45 (Operand.tmp 17) (Operand.tmp 75), type := 0, pos := "types.go:415", after := #[⟨13, .data⟩, ⟨2, .data⟩, ⟨12, .chain⟩, ⟨0, .phase⟩, ⟨1, .phase⟩, ⟨2, .phase⟩, ⟨3, .textOnly .lateStores⟩, ⟨4, .textOnly .lateStores⟩, ⟨5, .textOnly .lateStores⟩, ⟨6, .textOnly .lateStoresUnsure⟩, ⟨7, .textOnly .lateStoresUnsure⟩, ⟨8, .textOnly .lateStores⟩, ⟨9, .textOnly .lateStores⟩, ⟨10, .textOnly .lateStoresUnsure⟩, ⟨11, .textOnly .lateStoresUnsure⟩, ⟨12, .textOnly .lateStoresUnsure⟩, ⟨13, .phase⟩, ⟨14, .phase⟩], guard := none }) rfl (fun K hK => ?_) ?_
                      · (have c0 := hb13.cell (i := 0) rfl; have f0 := hb13.free 0; have c1 := hb13.cell (i := 1) rfl; have f1 := hb13.free 1; have c2 := hb13.cell (i := 2) rfl; have f2 := hb13.free 2; have c3 := hb13.cell (i := 3) rfl; have f3 := hb13.free 3; go_simp)
                        refine hK.out _ _ (fun _ => ?_) (fun hE => ?_)
                        · trivial
                        have hS := hE (by kernel_rfl)
                        clear hK K hE
                        try simp only [Act.put, List.setIfInBounds_toArray, List.set_cons_zero, List.set_cons_succ]
                        refine wpAnyT_ready (rs := [16]) (by kernel_rfl) rfl ?_
                        refine AllT.cons (o := { dst := none, op := Op.store 45 (Operand.tmp 18) (Operand.tmp 85), type := 0, pos := "types.go:415", after := #[⟨14, .data⟩, ⟨12, .data⟩, ⟨15, .chain⟩, ⟨0, .phase⟩, ⟨1, .phase⟩, ⟨2, .phase⟩, ⟨3, .phase⟩, ⟨4, .phase⟩, ⟨5, .phase⟩, ⟨6, .phase⟩, ⟨7, .phase⟩, ⟨8, .phase⟩, ⟨9, .phase⟩, ⟨10, .phase⟩, ⟨11, .phase⟩, ⟨12, .phase⟩, ⟨13, .phase⟩, ⟨14, .phase⟩, ⟨15, .phase⟩], guard := none }) rfl (fun K hK => ?_) ?_
                        · (obtain ⟨hbA, hkA⟩ := four hb13 (.int .i64 ra.kind) (.string ra.name) (.int .i64 ra.var) (.slice Aa ra.args.length ca); have hgg : g14 ≠ g13 := (by omega); have hb14A := hb14.keeps hkA hgg; clear c0 c1 c2 c3 f0 f1 f2 f3; have c0 := hb14A.cell (i := 0) rfl; have f0 := hb14A.free 0; have c1 := hb14A.cell (i := 1) rfl; have f1 := hb14A.free 1; have c2 := hb14A.cell (i := 2) rfl; have f2 := hb14A.free 2; have c3 := hb14A.cell (i := 3) rfl; have f3 := hb14A.free 3; go_simp)
                          refine hK.out _ _ (fun _ => ?_) (fun hE => ?_)
                          · trivial
                          have hS := hE (by kernel_rfl)
                          clear hK K hE
                          try simp only [Act.put, List.setIfInBounds_toArray, List.set_cons_zero, List.set_cons_succ]
                          refine wpAnyT_done (by kernel_rfl) ?_ _
                          refine NoPanic.normal ?_
                          obtain ⟨hbB, hkB⟩ := four hb14A (.int .i64 rb.kind) (.string rb.name) (.int .i64 rb.var) (.slice Ab rb.args.length cb)
                          have hgx : g13 < wc.heap.size → False := fun h => by have := hg13; omega
                          have hgy : g14 < wc.heap.size → False := fun h => by have := hg14; omega
                          have hTa := (hTa.keeps hkA (fun i hi h => by have h9 : i = g13 := h; omega)).keeps hkB (fun i hi h => by have h9 : i = g14 := h; omega)
                          have hTb := (hTb.keeps hkA (fun i hi h => by have h9 : i = g13 := h; omega)).keeps hkB (fun i hi h => by have h9 : i = g14 := h; omega)
                          have hq := (hq.trans hkA (fun i hi h => by have h9 : i = g13 := h; exact hgx (by omega))).trans hkB (fun i hi h => by have h9 : i = g14 := h; exact hgy (by omega))
                          have hsA := hkA.size
                          have hsB := hkB.size
                          go_wp2_with fail
                          go_meet
                          exact ⟨g13, g14, Aa, ca, Ab, cb, rfl, rfl, hbA.keeps hkB (fun h => hgg h.symm), hbB, hTa.mono (fun b hb => by omega), hTb.mono (fun b hb => by omega), hq⟩
                        exact AllT.nil
                      exact AllT.nil
                    exact AllT.nil
                  exact AllT.nil
                exact AllT.nil
              refine AllT.cons (o := { dst := some 17, op := Op.alloc 45, type := 0, pos := "types.go:415", after := #[], guard := none }) rfl (fun K hK => ?_) ?_
              · (go_simp; generalize hw13 : World.alloc _ _ = x3; have hb13 : Blk x3 x2.heap.size 45 [.int .i64 0, .string ⟨#[]⟩, .int .i64 0, .slice none 0 0] := (by rw [← hw13]; exact Blk.new _ _ _); have hk3 : Keeps (fun _ => False) x2 x3 := (by rw [← hw13]; repeat (first | (with_reducible exact Keeps.refl _ _) | (with_reducible refine Keeps.drewN ?_ _) | (with_reducible refine Keeps.drew ?_) | with_reducible refine Keeps.alloc ?_ _)); have hl13 := hb13.lt; have hTa := hTa.keeps hk3 (fun _ _ h => h); have hown := own_keeps hown hk3 (fun _ _ h => h); have hs3 := hk3.size; have hq := hq.trans hk3 (fun _ _ h => h); clear hw13; obtain ⟨g13, hg13⟩ : ∃ g, x2.heap.size = g := ⟨_, rfl⟩; rw [hg13] at hb13 hl13 ⊢)
                refine hK.out _ _ (fun _ => ?_) (fun hE => ?_)
                · trivial
                have hS := hE (by kernel_rfl)
                clear hK K hE
                try simp only [Act.put, List.setIfInBounds_toArray, List.set_cons_zero, List.set_cons_succ]
                refine wpAnyT_ready (rs := [11, 14]) (by kernel_rfl) rfl ?_
                refine AllT.cons (o := { dst := some 84, op := Op.call { callee := Callee.builtin Builtin.append, args := #[Operand.tmp 80, Operand.tmp 83], argTypes := #[63, 63] }, type := 63, pos := "types.go:415", after := #[⟨7, .data⟩, ⟨10, .data⟩, ⟨7, .chain⟩], guard := none }) rfl (fun K hK => ?_) ?_
                · (have hBs : B ≤ x3.heap.size := (by omega); refine step_append_sl _ rfl (.tmp 80) (.tmp 83) 63 rfl B 9 i0 _ 1 16 Tryd.underlying63 hi0 hz0 hz1 hz2 rfl (by decide) u (N.drop kk).length _ rfl hown dStr dStr.wide _ (N.take kk) _ kk cn rfl (HTk.out.keeps hq (fun _ _ h => h)) HM.out HBy.out hBs ?_; intro nv x4 news hnews hnown hgrow hat; have hk4 : Keeps (fun i => u.ownBlock = some i) x3 x4 := (Keeps.refl _ _).grown hgrow (fun i h _ => h); have hno13 : ¬ u.ownBlock = some g13 := (fun h => by have h9 := hul _ h; omega); have hnoT : ∀ i, (wc.heap.size ≤ i ∧ i < x1.heap.size) → ¬ u.ownBlock = some i := (fun i hi h => by have h9 := hul _ h; omega); have hnoQ : ∀ i, i < wc.heap.size → u.ownBlock = some i → False := (fun i hi h => by have h9 := hul _ h; have := hq.size; omega); have hb13 := hb13.keeps hk4 (hno13); have hTa := hTa.keeps hk4 hnoT; have hs4 := hk4.size; have hq := hq.trans hk4 hnoQ; have hnw := moved hnews hnown HNs.out HKl.out)
                  refine hK.out _ _ (fun _ => ?_) (fun hE => ?_)
                  · trivial
                  have hS := hE (by kernel_rfl)
                  clear hK K hE
                  try simp only [Act.put, List.setIfInBounds_toArray, List.set_cons_zero, List.set_cons_succ]
                  refine wpAnyT_ready (rs := [12, 14]) (by kernel_rfl) rfl ?_
                  refine AllT.cons (o := { dst := some 85, op := Op.call { callee := Callee.value (Operand.tmp 76), args := #[Operand.tmp 84], argTypes := #[63] }, type := 45, pos := "types.go:415", after := #[⟨3, .data⟩, ⟨11, .data⟩, ⟨11, .chain⟩], guard := none }) rfl (fun K hK => ?_) ?_
                  · (go_simp; go_at_call 35; refine (build2 (N.drop kk ++ N.take kk) _ rb HRB.out _ x4 hnw (by repeat (first | (with_reducible exact Keeps.refl _ _) | (with_reducible refine Keeps.drewN ?_ _) | with_reducible refine Keeps.drew ?_))).mono ?_; rintro e x5 ⟨Ab, cb, rfl, hTb, hk5⟩; have hb13 := hb13.keeps hk5 (fun h => h); have hTa := hTa.keeps hk5 (fun _ _ h => h); have hs5 := hk5.size; have hq := hq.trans hk5 (fun _ _ h => h); go_wp2_with fail)
                    refine hK.out _ _ (fun _ => ?_) (fun hE => ?_)
                    · trivial
                    have hS := hE (by kernel_rfl)
                    clear hK K hE
                    try simp only [Act.put, List.setIfInBounds_toArray, List.set_cons_zero, List.set_cons_succ]
                    refine wpAnyT_ready (rs := [14]) (by kernel_rfl) rfl ?_
                    refine AllT.cons (o := { dst := some 18, op := Op.alloc 45, type := 0, pos := "types.go:415", after := #[], guard := none }) rfl (fun K hK => ?_) ?_
                    · (go_simp; generalize hw14 : World.alloc _ _ = x6; have hb14 : Blk x6 x5.heap.size 45 [.int .i64 0, .string ⟨#[]⟩, .int .i64 0, .slice none 0 0] := (by rw [← hw14]; exact Blk.new _ _ _); have hk6 : Keeps (fun _ => False) x5 x6 := (by rw [← hw14]; repeat (first | (with_reducible exact Keeps.refl _ _) | (with_reducible refine Keeps.drewN ?_ _) | (with_reducible refine Keeps.drew ?_) | with_reducible refine Keeps.alloc ?_ _)); have hl14 := hb14.lt; have hb13 := hb13.keeps hk6 (fun h => h); have hTa := hTa.keeps hk6 (fun _ _ h => h); have hTb := hTb.keeps hk6 (fun _ _ h => h); have hs6 := hk6.size; have hq := hq.trans hk6 (fun _ _ h => h); clear hw14; obtain ⟨g14, hg14⟩ : ∃ g, x5.heap.size = g := ⟨_, rfl⟩; rw [hg14] at hb14 hl14 ⊢)
                      refine hK.out _ _ (fun _ => ?_) (fun hE => ?_)
                      · trivial
                      have hS := hE (by kernel_rfl)
                      clear hK K hE
                      try simp only [Act.put, List.setIfInBounds_toArray, List.set_cons_zero, List.set_cons_succ]
                      refine wpAnyT_ready (rs := [15]) (by kernel_rfl) rfl ?_
                      refine AllT.cons (o := { dst := none, op := Op.store 45 (Operand.tmp 17) (Operand.tmp 75), type := 0, pos := "types.go:415", after := #[⟨13, .data⟩, ⟨2, .data⟩, ⟨12, .chain⟩, ⟨0, .phase⟩, ⟨1, .phase⟩, ⟨2, .phase⟩, ⟨3, .textOnly .lateStores⟩, ⟨4, .textOnly .lateStores⟩, ⟨5, .textOnly .lateStores⟩, ⟨6, .textOnly .lateStoresUnsure⟩, ⟨7, .textOnly .lateStoresUnsure⟩, ⟨8, .textOnly .lateStores⟩, ⟨9, .textOnly .lateStores⟩, ⟨10, .textOnly .lateStoresUnsure⟩, ⟨11, .textOnly .lateStoresUnsure⟩, ⟨12, .textOnly .lateStoresUnsure⟩, ⟨13, .phase⟩, ⟨14, .phase⟩], guard := none }) rfl (fun K hK => ?_) ?_
                      · (have c0 := hb13.cell (i := 0) rfl; have f0 := hb13.free 0; have c1 := hb13.cell (i := 1) rfl; have f1 := hb13.free 1; have c2 := hb13.cell (i := 2) rfl; have f2 := hb13.free 2; have c3 := hb13.cell (i := 3) rfl; have f3 := hb13.free 3; go_simp)
                        refine hK.out _ _ (fun _ => ?_) (fun hE => ?_)
                        · trivial
                        have hS := hE (by kernel_rfl)
                        clear hK K hE
                        try simp only [Act.put, List.setIfInBounds_toArray, List.set_cons_zero, List.set_cons_succ]
                        refine wpAnyT_ready (rs := [16]) (by kernel_rfl) rfl ?_
                        refine AllT.cons (o := { dst := none, op := Op.store 45 (Operand.tmp 18) (Operand.tmp 85), type := 0, pos := "types.go:415", after := #[⟨14, .data⟩, ⟨12, .data⟩, ⟨15, .chain⟩, ⟨0, .phase⟩, ⟨1, .phase⟩, ⟨2, .phase⟩, ⟨3, .phase⟩, ⟨4, .phase⟩, ⟨5, .phase⟩, ⟨6, .phase⟩, ⟨7, .phase⟩, ⟨8, .phase⟩, ⟨9, .phase⟩, ⟨10, .phase⟩, ⟨11, .phase⟩, ⟨12, .phase⟩, ⟨13, .phase⟩, ⟨14, .phase⟩, ⟨15, .phase⟩], guard := none }) rfl (fun K hK => ?_) ?_
                        · (obtain ⟨hbA, hkA⟩ := four hb13 (.int .i64 ra.kind) (.string ra.name) (.int .i64 ra.var) (.slice Aa ra.args.length ca); have hgg : g14 ≠ g13 := (by omega); have hb14A := hb14.keeps hkA hgg; clear c0 c1 c2 c3 f0 f1 f2 f3; have c0 := hb14A.cell (i := 0) rfl; have f0 := hb14A.free 0; have c1 := hb14A.cell (i := 1) rfl; have f1 := hb14A.free 1; have c2 := hb14A.cell (i := 2) rfl; have f2 := hb14A.free 2; have c3 := hb14A.cell (i := 3) rfl; have f3 := hb14A.free 3; go_simp)
                          refine hK.out _ _ (fun _ => ?_) (fun hE => ?_)
                          · trivial
                          have hS := hE (by kernel_rfl)
                          clear hK K hE
                          try simp only [Act.put, List.setIfInBounds_toArray, List.set_cons_zero, List.set_cons_succ]
                          refine wpAnyT_done (by kernel_rfl) ?_ _
                          refine NoPanic.normal ?_
                          obtain ⟨hbB, hkB⟩ := four hb14A (.int .i64 rb.kind) (.string rb.name) (.int .i64 rb.var) (.slice Ab rb.args.length cb)
                          have hgx : g13 < wc.heap.size → False := fun h => by have := hg13; omega
                          have hgy : g14 < wc.heap.size → False := fun h => by have := hg14; omega
                          have hTa := (hTa.keeps hkA (fun i hi h => by have h9 : i = g13 := h; omega)).keeps hkB (fun i hi h => by have h9 : i = g14 := h; omega)
                          have hTb := (hTb.keeps hkA (fun i hi h => by have h9 : i = g13 := h; omega)).keeps hkB (fun i hi h => by have h9 : i = g14 := h; omega)
                          have hq := (hq.trans hkA (fun i hi h => by have h9 : i = g13 := h; exact hgx (by omega))).trans hkB (fun i hi h => by have h9 : i = g14 := h; exact hgy (by omega))
                          have hsA := hkA.size
                          have hsB := hkB.size
                          go_wp2_with fail
                          go_meet
                          exact ⟨g13, g14, Aa, ca, Ab, cb, rfl, rfl, hbA.keeps hkB (fun h => hgg h.symm), hbB, hTa.mono (fun b hb => by omega), hTb.mono (fun b hb => by omega), hq⟩
                        exact AllT.nil
                      exact AllT.nil
                    exact AllT.nil
                  refine AllT.cons (o := { dst := some 18, op := Op.alloc 45, type := 0, pos := "types.go:415", after := #[], guard := none }) rfl (fun K hK => ?_) ?_
                  · (go_simp; generalize hw14 : World.alloc _ _ = x5; have hb14 : Blk x5 x4.heap.size 45 [.int .i64 0, .string ⟨#[]⟩, .int .i64 0, .slice none 0 0] := (by rw [← hw14]; exact Blk.new _ _ _); have hk5 : Keeps (fun _ => False) x4 x5 := (by rw [← hw14]; repeat (first | (with_reducible exact Keeps.refl _ _) | (with_reducible refine Keeps.drewN ?_ _) | (with_reducible refine Keeps.drew ?_) | with_reducible refine Keeps.alloc ?_ _)); have hl14 := hb14.lt; have hb13 := hb13.keeps hk5 (fun h => h); have hTa := hTa.keeps hk5 (fun _ _ h => h); have hnw : Sl x5 (fun b => b < x5.heap.size) dStr _ _ := (hnw.keeps hk5 (fun _ _ h => h)).mono (fun b hb => Nat.lt_of_lt_of_le hb hk5.size); have hs5 := hk5.size; have hq := hq.trans hk5 (fun _ _ h => h); clear hw14; obtain ⟨g14, hg14⟩ : ∃ g, x4.heap.size = g := ⟨_, rfl⟩; rw [hg14] at hb14 hl14 ⊢)
                    refine hK.out _ _ (fun _ => ?_) (fun hE => ?_)
                    · trivial
                    have hS := hE (by kernel_rfl)
                    clear hK K hE
                    try simp only [Act.put, List.setIfInBounds_toArray, List.set_cons_zero, List.set_cons_succ]
                    refine wpAnyT_ready (rs := [12]) (by kernel_rfl) rfl ?_
                    refine AllT.cons (o := { dst := some 85, op := Op.call { callee := Callee.value (Operand.tmp 76), args := #[Operand.tmp 84], argTypes := #[63] }, type := 45, pos := "types.go:415", after := #[⟨3, .data⟩, ⟨11, .data⟩, ⟨11, .chain⟩], guard := none }) rfl (fun K hK => ?_) ?_
                    · (go_simp; go_at_call 35; refine (build2 (N.drop kk ++ N.take kk) _ rb HRB.out _ x5 hnw (by repeat (first | (with_reducible exact Keeps.refl _ _) | (with_reducible refine Keeps.drewN ?_ _) | with_reducible refine Keeps.drew ?_))).mono ?_; rintro e x6 ⟨Ab, cb, rfl, hTb, hk6⟩; have hb13 := hb13.keeps hk6 (fun h => h); have hb14 := hb14.keeps hk6 (fun h => h); have hTa := hTa.keeps hk6 (fun _ _ h => h); have hs6 := hk6.size; have hq := hq.trans hk6 (fun _ _ h => h); go_wp2_with fail)
                      refine hK.out _ _ (fun _ => ?_) (fun hE => ?_)
                      · trivial
                      have hS := hE (by kernel_rfl)
                      clear hK K hE
                      try simp only [Act.put, List.setIfInBounds_toArray, List.set_cons_zero, List.set_cons_succ]
                      refine wpAnyT_ready (rs := [15]) (by kernel_rfl) rfl ?_
                      refine AllT.cons (o := { dst := none, op := Op.store 45 (Operand.tmp 17) (Operand.tmp 75), type := 0, pos := "types.go:415", after := #[⟨13, .data⟩, ⟨2, .data⟩, ⟨12, .chain⟩, ⟨0, .phase⟩, ⟨1, .phase⟩, ⟨2, .phase⟩, ⟨3, .textOnly .lateStores⟩, ⟨4, .textOnly .lateStores⟩, ⟨5, .textOnly .lateStores⟩, ⟨6, .textOnly .lateStoresUnsure⟩, ⟨7, .textOnly .lateStoresUnsure⟩, ⟨8, .textOnly .lateStores⟩, ⟨9, .textOnly .lateStores⟩, ⟨10, .textOnly .lateStoresUnsure⟩, ⟨11, .textOnly .lateStoresUnsure⟩, ⟨12, .textOnly .lateStoresUnsure⟩, ⟨13, .phase⟩, ⟨14, .phase⟩], guard := none }) rfl (fun K hK => ?_) ?_
                      · (have c0 := hb13.cell (i := 0) rfl; have f0 := hb13.free 0; have c1 := hb13.cell (i := 1) rfl; have f1 := hb13.free 1; have c2 := hb13.cell (i := 2) rfl; have f2 := hb13.free 2; have c3 := hb13.cell (i := 3) rfl; have f3 := hb13.free 3; go_simp)
                        refine hK.out _ _ (fun _ => ?_) (fun hE => ?_)
                        · trivial
                        have hS := hE (by kernel_rfl)
                        clear hK K hE
                        try simp only [Act.put, List.setIfInBounds_toArray, List.set_cons_zero, List.set_cons_succ]
                        refine wpAnyT_ready (rs := [16]) (by kernel_rfl) rfl ?_
                        refine AllT.cons (o := { dst := none, op := Op.store 45 (Operand.tmp 18) (Operand.tmp 85), type := 0, pos := "types.go:415", after := #[⟨14, .data⟩, ⟨12, .data⟩, ⟨15, .chain⟩, ⟨0, .phase⟩, ⟨1, .phase⟩, ⟨2, .phase⟩, ⟨3, .phase⟩, ⟨4, .phase⟩, ⟨5, .phase⟩, ⟨6, .phase⟩, ⟨7, .phase⟩, ⟨8, .phase⟩, ⟨9, .phase⟩, ⟨10, .phase⟩, ⟨11, .phase⟩, ⟨12, .phase⟩, ⟨13, .phase⟩, ⟨14, .phase⟩, ⟨15, .phase⟩], guard := none }) rfl (fun K hK => ?_) ?_
                        · (obtain ⟨hbA, hkA⟩ := four hb13 (.int .i64 ra.kind) (.string ra.name) (.int .i64 ra.var) (.slice Aa ra.args.length ca); have hgg : g14 ≠ g13 := (by omega); have hb14A := hb14.keeps hkA hgg; clear c0 c1 c2 c3 f0 f1 f2 f3; have c0 := hb14A.cell (i := 0) rfl; have f0 := hb14A.free 0; have c1 := hb14A.cell (i := 1) rfl; have f1 := hb14A.free 1; have c2 := hb14A.cell (i := 2) rfl; have f2 := hb14A.free 2; have c3 := hb14A.cell (i := 3) rfl; have f3 := hb14A.free 3; go_simp)
                          refine hK.out _ _ (fun _ => ?_) (fun hE => ?_)
                          · trivial
                          have hS := hE (by kernel_rfl)
                          clear hK K hE
                          try simp only [Act.put, List.setIfInBounds_toArray, List.set_cons_zero, List.set_cons_succ]
                          refine wpAnyT_done (by kernel_rfl) ?_ _
                          refine NoPanic.normal ?_
                          obtain ⟨hbB, hkB⟩ := four hb14A (.int .i64 rb.kind) (.string rb.name) (.int .i64 rb.var) (.slice Ab rb.args.length cb)
                          have hgx : g13 < wc.heap.size → False := fun h => by have := hg13; omega
                          have hgy : g14 < wc.heap.size → False := fun h => by have := hg14; omega
                          have hTa := (hTa.keeps hkA (fun i hi h => by have h9 : i = g13 := h; omega)).keeps hkB (fun i hi h => by have h9 : i = g14 := h; omega)
                          have hTb := (hTb.keeps hkA (fun i hi h => by have h9 : i = g13 := h; omega)).keeps hkB (fun i hi h => by have h9 : i = g14 := h; omega)
                          have hq := (hq.trans hkA (fun i hi h => by have h9 : i = g13 := h; exact hgx (by omega))).trans hkB (fun i hi h => by have h9 : i = g14 := h; exact hgy (by omega))
                          have hsA := hkA.size
                          have hsB := hkB.size
                          go_wp2_with fail
                          go_meet
                          exact ⟨g13, g14, Aa, ca, Ab, cb, rfl, rfl, hbA.keeps hkB (fun h => hgg h.symm), hbB, hTa.mono (fun b hb => by omega), hTb.mono (fun b hb => by omega), hq⟩
                        exact AllT.nil
                      exact AllT.nil
                    exact AllT.nil
                  exact AllT.nil
                refine AllT.cons (o := { dst := some 18, op := Op.alloc 45, type := 0, pos := "types.go:415", after := #[], guard := none }) rfl (fun K hK => ?_) ?_
                · (go_simp; generalize hw14 : World.alloc _ _ = x4; have hb14 : Blk x4 x3.heap.size 45 [.int .i64 0, .string ⟨#[]⟩, .int .i64 0, .slice none 0 0] := (by rw [← hw14]; exact Blk.new _ _ _); have hk4 : Keeps (fun _ => False) x3 x4 := (by rw [← hw14]; repeat (first | (with_reducible exact Keeps.refl _ _) | (with_reducible refine Keeps.drewN ?_ _) | (with_reducible refine Keeps.drew ?_) | with_reducible refine Keeps.alloc ?_ _)); have hl14 := hb14.lt; have hb13 := hb13.keeps hk4 (fun h => h); have hTa := hTa.keeps hk4 (fun _ _ h => h); have hown := own_keeps hown hk4 (fun _ _ h => h); have hs4 := hk4.size; have hq := hq.trans hk4 (fun _ _ h => h); clear hw14; obtain ⟨g14, hg14⟩ : ∃ g, x3.heap.size = g := ⟨_, rfl⟩; rw [hg14] at hb14 hl14 ⊢)
                  refine hK.out _ _ (fun _ => ?_) (fun hE => ?_)
                  · trivial
                  have hS := hE (by kernel_rfl)
                  clear hK K hE
                  try simp only [Act.put, List.setIfInBounds_toArray, List.set_cons_zero, List.set_cons_succ]
                  refine wpAnyT_ready (rs := [11]) (by kernel_rfl) rfl ?_
                  refine AllT.cons (o := { dst := some 84, op := Op.call { callee := Callee.builtin Builtin.append, args := #[Operand.tmp 80, Operand.tmp 83], argTypes := #[63, 63] }, type := 63, pos := "types.go:415", after := #[⟨7, .data⟩, ⟨10, .data⟩, ⟨7, .chain⟩], guard := none }) rfl (fun K hK => ?_) ?_
                  · (have hBs : B ≤ x4.heap.size := (by omega); refine step_append_sl _ rfl (.tmp 80) (.tmp 83) 63 rfl B 9 i0 _ 1 16 Tryd.underlying63 hi0 hz0 hz1 hz2 rfl (by decide) u (N.drop kk).length _ rfl hown dStr dStr.wide _ (N.take kk) _ kk cn rfl (HTk.out.keeps hq (fun _ _ h => h)) HM.out HBy.out hBs ?_; intro nv x5 news hnews hnown hgrow hat; have hk5 : Keeps (fun i => u.ownBlock = some i) x4 x5 := (Keeps.refl _ _).grown hgrow (fun i h _ => h); have hno13 : ¬ u.ownBlock = some g13 := (fun h => by have h9 := hul _ h; omega); have hno14 : ¬ u.ownBlock = some g14 := (fun h => by have h9 := hul _ h; omega); have hnoT : ∀ i, (wc.heap.size ≤ i ∧ i < x1.heap.size) → ¬ u.ownBlock = some i := (fun i hi h => by have h9 := hul _ h; omega); have hnoQ : ∀ i, i < wc.heap.size → u.ownBlock = some i → False := (fun i hi h => by have h9 := hul _ h; have := hq.size; omega); have hb13 := hb13.keeps hk5 (hno13); have hb14 := hb14.keeps hk5 (hno14); have hTa := hTa.keeps hk5 hnoT; have hs5 := hk5.size; have hq := hq.trans hk5 hnoQ; have hnw := moved hnews hnown HNs.out HKl.out)
                    refine hK.out _ _ (fun _ => ?_) (fun hE => ?_)
                    · trivial
                    have hS := hE (by kernel_rfl)
                    clear hK K hE
                    try simp only [Act.put, List.setIfInBounds_toArray, List.set_cons_zero, List.set_cons_succ]
                    refine wpAnyT_ready (rs := [12]) (by kernel_rfl) rfl ?_
                    refine AllT.cons (o := { dst := some 85, op := Op.call { callee := Callee.value (Operand.tmp 76), args := #[Operand.tmp 84], argTypes := #[63] }, type := 45, pos := "types.go:415", after := #[⟨3, .data⟩, ⟨11, .data⟩, ⟨11, .chain⟩], guard := none }) rfl (fun K hK => ?_) ?_
                    · (go_simp; go_at_call 35; refine (build2 (N.drop kk ++ N.take kk) _ rb HRB.out _ x5 hnw (by repeat (first | (with_reducible exact Keeps.refl _ _) | (with_reducible refine Keeps.drewN ?_ _) | with_reducible refine Keeps.drew ?_))).mono ?_; rintro e x6 ⟨Ab, cb, rfl, hTb, hk6⟩; have hb13 := hb13.keeps hk6 (fun h => h); have hb14 := hb14.keeps hk6 (fun h => h); have hTa := hTa.keeps hk6 (fun _ _ h => h); have hs6 := hk6.size; have hq := hq.trans hk6 (fun _ _ h => h); go_wp2_with fail)
                      refine hK.out _ _ (fun _ => ?_) (fun hE => ?_)
                      · trivial
                      have hS := hE (by kernel_rfl)
                      clear hK K hE
                      try simp only [Act.put, List.setIfInBounds_toArray, List.set_cons_zero, List.set_cons_succ]
                      refine wpAnyT_ready (rs := [15]) (by kernel_rfl) rfl ?_
                      refine AllT.cons (o := { dst := none, op := Op.store 45 (Operand.tmp 17) (Operand.tmp 75), type := 0, pos := "types.go:415", after := #[⟨13, .data⟩, ⟨2, .data⟩, ⟨12, .chain⟩, ⟨0, .phase⟩, ⟨1, .phase⟩, ⟨2, .phase⟩, ⟨3, .textOnly .lateStores⟩, ⟨4, .textOnly .lateStores⟩, ⟨5, .textOnly .lateStores⟩, ⟨6, .textOnly .lateStoresUnsure⟩, ⟨7, .textOnly .lateStoresUnsure⟩, ⟨8, .textOnly .lateStores⟩, ⟨9, .textOnly .lateStores⟩, ⟨10, .textOnly .lateStoresUnsure⟩, ⟨11, .textOnly .lateStoresUnsure⟩, ⟨12, .textOnly .lateStoresUnsure⟩, ⟨13, .phase⟩, ⟨14, .phase⟩], guard := none }) rfl (fun K hK => ?_) ?_
                      · (have c0 := hb13.cell (i := 0) rfl; have f0 := hb13.free 0; have c1 := hb13.cell (i := 1) rfl; have f1 := hb13.free 1; have c2 := hb13.cell (i := 2) rfl; have f2 := hb13.free 2; have c3 := hb13.cell (i := 3) rfl; have f3 := hb13.free 3; go_simp)
                        refine hK.out _ _ (fun _ => ?_) (fun hE => ?_)
                        · trivial
                        have hS := hE (by kernel_rfl)
                        clear hK K hE
                        try simp only [Act.put, List.setIfInBounds_toArray, List.set_cons_zero, List.set_cons_succ]
                        refine wpAnyT_ready (rs := [16]) (by kernel_rfl) rfl ?_
                        refine AllT.cons (o := { dst := none, op := Op.store 45 (Operand.tmp 18) (Operand.tmp 85), type := 0, pos := "types.go:415", after := #[⟨14, .data⟩, ⟨12, .data⟩, ⟨15, .chain⟩, ⟨0, .phase⟩, ⟨1, .phase⟩, ⟨2, .phase⟩, ⟨3, .phase⟩, ⟨4, .phase⟩, ⟨5, .phase⟩, ⟨6, .phase⟩, ⟨7, .phase⟩, ⟨8, .phase⟩, ⟨9, .phase⟩, ⟨10, .phase⟩, ⟨11, .phase⟩, ⟨12, .phase⟩, ⟨13, .phase⟩, ⟨14, .phase⟩, ⟨15, .phase⟩], guard := none }) rfl (fun K hK => ?_) ?_
                        · (obtain ⟨hbA, hkA⟩ := four hb13 (.int .i64 ra.kind) (.string ra.name) (.int .i64 ra.var) (.slice Aa ra.args.length ca); have hgg : g14 ≠ g13 := (by omega); have hb14A := hb14.keeps hkA hgg; clear c0 c1 c2 c3 f0 f1 f2 f3; have c0 := hb14A.cell (i := 0) rfl; have f0 := hb14A.free 0; have c1 := hb14A.cell (i := 1) rfl; have f1 := hb14A.free 1; have c2 := hb14A.cell (i := 2) rfl; have f2 := hb14A.free 2; have c3 := hb14A.cell (i := 3) rfl; have f3 := hb14A.free 3; go_simp)
                          refine hK.out _ _ (fun _ => ?_) (fun hE => ?_)
                          · trivial
                          have hS := hE (by kernel_rfl)
                          clear hK K hE
                          try simp only [Act.put, List.setIfInBounds_toArray, List.set_cons_zero, List.set_cons_succ]
                          refine wpAnyT_done (by kernel_rfl) ?_ _
                          refine NoPanic.normal ?_
                          obtain ⟨hbB, hkB⟩ := four hb14A (.int .i64 rb.kind) (.string rb.name) (.int .i64 rb.var) (.slice Ab rb.args.length cb)
                          have hgx : g13 < wc.heap.size → False := fun h => by have := hg13; omega
                          have hgy : g14 < wc.heap.size → False := fun h => by have := hg14; omega
                          have hTa := (hTa.keeps hkA (fun i hi h => by have h9 : i = g13 := h; omega)).keeps hkB (fun i hi h => by have h9 : i = g14 := h; omega)
                          have hTb := (hTb.keeps hkA (fun i hi h => by have h9 : i = g13 := h; omega)).keeps hkB (fun i hi h => by have h9 : i = g14 := h; omega)
                          have hq := (hq.trans hkA (fun i hi h => by have h9 : i = g13 := h; exact hgx (by omega))).trans hkB (fun i hi h => by have h9 : i = g14 := h; exact hgy (by omega))
                          have hsA := hkA.size
                          have hsB := hkB.size
                          go_wp2_with fail
                          go_meet
                          exact ⟨g13, g14, Aa, ca, Ab, cb, rfl, rfl, hbA.keeps hkB (fun h => hgg h.symm), hbB, hTa.mono (fun b hb => by omega), hTb.mono (fun b hb => by omega), hq⟩
                        exact AllT.nil
                      exact AllT.nil
                    exact AllT.nil
                  exact AllT.nil
                exact AllT.nil
              refine AllT.cons (o := { dst := some 18, op := Op.alloc 45, type := 0, pos := "types.go:415", after := #[], guard := none }) rfl (fun K hK => ?_) ?_
              · (go_simp; generalize hw14 : World.alloc _ _ = x3; have hb14 : Blk x3 x2.heap.size 45 [.int .i64 0, .string ⟨#[]⟩, .int .i64 0, .slice none 0 0] := (by rw [← hw14]; exact Blk.new _ _ _); have hk3 : Keeps (fun _ => False) x2 x3 := (by rw [← hw14]; repeat (first | (with_reducible exact Keeps.refl _ _) | (with_reducible refine Keeps.drewN ?_ _) | (with_reducible refine Keeps.drew ?_) | with_reducible refine Keeps.alloc ?_ _)); have hl14 := hb14.lt; have hTa := hTa.keeps hk3 (fun _ _ h => h); have hown := own_keeps hown hk3 (fun _ _ h => h); have hs3 := hk3.size; have hq := hq.trans hk3 (fun _ _ h => h); clear hw14; obtain ⟨g14, hg14⟩ : ∃ g, x2.heap.size = g := ⟨_, rfl⟩; rw [hg14] at hb14 hl14 ⊢)
                refine hK.out _ _ (fun _ => ?_) (fun hE => ?_)
                · trivial
                have hS := hE (by kernel_rfl)
                clear hK K hE
                try simp only [Act.put, List.setIfInBounds_toArray, List.set_cons_zero, List.set_cons_succ]
                refine wpAnyT_ready (rs := [11, 13]) (by kernel_rfl) rfl ?_
                refine AllT.cons (o := { dst := some 84, op := Op.call { callee := Callee.builtin Builtin.append, args := #[Operand.tmp 80, Operand.tmp 83], argTypes := #[63, 63] }, type := 63, pos := "types.go:415", after := #[⟨7, .data⟩, ⟨10, .data⟩, ⟨7, .chain⟩], guard := none }) rfl (fun K hK => ?_) ?_
                · (have hBs : B ≤ x3.heap.size := (by omega); refine step_append_sl _ rfl (.tmp 80) (.tmp 83) 63 rfl B 9 i0 _ 1 16 Tryd.underlying63 hi0 hz0 hz1 hz2 rfl (by decide) u (N.drop kk).length _ rfl hown dStr dStr.wide _ (N.take kk) _ kk cn rfl (HTk.out.keeps hq (fun _ _ h => h)) HM.out HBy.out hBs ?_; intro nv x4 news hnews hnown hgrow hat; have hk4 : Keeps (fun i => u.ownBlock = some i) x3 x4 := (Keeps.refl _ _).grown hgrow (fun i h _ => h); have hno14 : ¬ u.ownBlock = some g14 := (fun h => by have h9 := hul _ h; omega); have hnoT : ∀ i, (wc.heap.size ≤ i ∧ i < x1.heap.size) → ¬ u.ownBlock = some i := (fun i hi h => by have h9 := hul _ h; omega); have hnoQ : ∀ i, i < wc.heap.size → u.ownBlock = some i → False := (fun i hi h => by have h9 := hul _ h; have := hq.size; omega); have hb14 := hb14.keeps hk4 (hno14); have hTa := hTa.keeps hk4 hnoT; have hs4 := hk4.size; have hq := hq.trans hk4 hnoQ; have hnw := moved hnews hnown HNs.out HKl.out)
                  refine hK.out _ _ (fun _ => ?_) (fun hE => ?_)
                  · trivial
                  have hS := hE (by kernel_rfl)
                  clear hK K hE
                  try simp only [Act.put, List.setIfInBounds_toArray, List.set_cons_zero, List.set_cons_succ]
                  refine wpAnyT_ready (rs := [12, 13]) (by kernel_rfl) rfl ?_
                  refine AllT.cons (o := { dst := some 85, op := Op.call { callee := Callee.value (Operand.tmp 76), args := #[Operand.tmp 84], argTypes := #[63] }, type := 45, pos := "types.go:415", after := #[⟨3, .data⟩, ⟨11, .data⟩, ⟨11, .chain⟩], guard := none }) rfl (fun K hK => ?_) ?_
                  · (go_simp; go_at_call 35; refine (build2 (N.drop kk ++ N.take kk) _ rb HRB.out _ x4 hnw (by repeat (first | (with_reducible exact Keeps.refl _ _) | (with_reducible refine Keeps.drewN ?_ _) | with_reducible refine Keeps.drew ?_))).mono ?_; rintro e x5 ⟨Ab, cb, rfl, hTb, hk5⟩; have hb14 := hb14.keeps hk5 (fun h => h); have hTa := hTa.keeps hk5 (fun _ _ h => h); have hs5 := hk5.size; have hq := hq.trans hk5 (fun _ _ h => h); go_wp2_with fail)
                    refine hK.out _ _ (fun _ => ?_) (fun hE => ?_)
                    · trivial
                    have hS := hE (by kernel_rfl)
                    clear hK K hE
                    try simp only [Act.put, List.setIfInBounds_toArray, List.set_cons_zero, List.set_cons_succ]
                    refine wpAnyT_ready (rs := [13]) (by kernel_rfl) rfl ?_
                    refine AllT.cons (o := { dst := some 17, op := Op.alloc 45, type := 0, pos := "types.go:415", after := #[], guard := none }) rfl (fun K hK => ?_) ?_
                    · (go_simp; generalize hw13 : World.alloc _ _ = x6; have hb13 : Blk x6 x5.heap.size 45 [.int .i64 0, .string ⟨#[]⟩, .int .i64 0, .slice none 0 0] := (by rw [← hw13]; exact Blk.new _ _ _); have hk6 : Keeps (fun _ => False) x5 x6 := (by rw [← hw13]; repeat (first | (with_reducible exact Keeps.refl _ _) | (with_reducible refine Keeps.drewN ?_ _) | (with_reducible refine Keeps.drew ?_) | with_reducible refine Keeps.alloc ?_ _)); have hl13 := hb13.lt; have hb14 := hb14.keeps hk6 (fun h => h); have hTa := hTa.keeps hk6 (fun _ _ h => h); have hTb := hTb.keeps hk6 (fun _ _ h => h); have hs6 := hk6.size; have hq := hq.trans hk6 (fun _ _ h => h); clear hw13; obtain ⟨g13, hg13⟩ : ∃ g, x5.heap.size = g := ⟨_, rfl⟩; rw [hg13] at hb13 hl13 ⊢)
                      refine hK.out _ _ (fun _ => ?_) (fun hE => ?_)
                      · trivial
                      have hS := hE (by kernel_rfl)
                      clear hK K hE
                      try simp only [Act.put, List.setIfInBounds_toArray, List.set_cons_zero, List.set_cons_succ]
                      refine wpAnyT_ready (rs := [15]) (by kernel_rfl) rfl ?_
                      refine AllT.cons (o := { dst := none, op := Op.store 45 (Operand.tmp 17) (Operand.tmp 75), type := 0, pos := "types.go:415", after := #[⟨13, .data⟩, ⟨2, .data⟩, ⟨12, .chain⟩, ⟨0, .phase⟩, ⟨1, .phase⟩, ⟨2, .phase⟩, ⟨3, .textOnly .lateStores⟩, ⟨4, .textOnly .lateStores⟩, ⟨5, .textOnly .lateStores⟩, ⟨6, .textOnly .lateStoresUnsure⟩, ⟨7, .textOnly .lateStoresUnsure⟩, ⟨8, .textOnly .lateStores⟩, ⟨9, .textOnly .lateStores⟩, ⟨10, .textOnly .lateStoresUnsure⟩, ⟨11, .textOnly .lateStoresUnsure⟩, ⟨12, .textOnly .lateStoresUnsure⟩, ⟨13, .phase⟩, ⟨14, .phase⟩], guard := none }) rfl (fun K hK => ?_) ?_
                      · (have c0 := hb13.cell (i := 0) rfl; have f0 := hb13.free 0; have c1 := hb13.cell (i := 1) rfl; have f1 := hb13.free 1; have c2 := hb13.cell (i := 2) rfl; have f2 := hb13.free 2; have c3 := hb13.cell (i := 3) rfl; have f3 := hb13.free 3; go_simp)
                        refine hK.out _ _ (fun _ => ?_) (fun hE => ?_)
                        · trivial
                        have hS := hE (by kernel_rfl)
                        clear hK K hE
                        try simp only [Act.put, List.setIfInBounds_toArray, List.set_cons_zero, List.set_cons_succ]
                        refine wpAnyT_ready (rs := [16]) (by kernel_rfl) rfl ?_
                        refine AllT.cons (o := { dst := none, op := Op.store 45 (Operand.tmp 18) (Operand.tmp 85), type := 0, pos := "types.go:415", after := #[⟨14, .data⟩, ⟨12, .data⟩, ⟨15, .chain⟩, ⟨0, .phase⟩, ⟨1, .phase⟩, ⟨2, .phase⟩, ⟨3, .phase⟩, ⟨4, .phase⟩, ⟨5, .phase⟩, ⟨6, .phase⟩, ⟨7, .phase⟩, ⟨8, .phase⟩, ⟨9, .phase⟩, ⟨10, .phase⟩, ⟨11, .phase⟩, ⟨12, .phase⟩, ⟨13, .phase⟩, ⟨14, .phase⟩, ⟨15, .phase⟩], guard := none }) rfl (fun K hK => ?_) ?_
                        · (obtain ⟨hbA, hkA⟩ := four hb13 (.int .i64 ra.kind) (.string ra.name) (.int .i64 ra.var) (.slice Aa ra.args.length ca); have hgg : g14 ≠ g13 := (by omega); have hb14A := hb14.keeps hkA hgg; clear c0 c1 c2 c3 f0 f1 f2 f3; have c0 := hb14A.cell (i := 0) rfl; have f0 := hb14A.free 0; have c1 := hb14A.cell (i := 1) rfl; have f1 := hb14A.free 1; have c2 := hb14A.cell (i := 2) rfl; have f2 := hb14A.free 2; have c3 := hb14A.cell (i := 3) rfl; have f3 := hb14A.free 3; go_simp)
                          refine hK.out _ _ (fun _ => ?_) (fun hE => ?_)
                          · trivial
                          have hS := hE (by kernel_rfl)
                          clear hK K hE
                          try simp only [Act.put, List.setIfInBounds_toArray, List.set_cons_zero, List.set_cons_succ]
                          refine wpAnyT_done (by kernel_rfl) ?_ _
                          refine NoPanic.normal ?_
                          obtain ⟨hbB, hkB⟩ := four hb14A (.int .i64 rb.kind) (.string rb.name) (.int .i64 rb.var) (.slice Ab rb.args.length cb)
                          have hgx : g13 < wc.heap.size → False := fun h => by have := hg13; omega
                          have hgy : g14 < wc.heap.size → False := fun h => by have := hg14; omega
                          have hTa := (hTa.keeps hkA (fun i hi h => by have h9 : i = g13 := h; omega)).keeps hkB (fun i hi h => by have h9 : i = g14 := h; omega)
                          have hTb := (hTb.keeps hkA (fun i hi h => by have h9 : i = g13 := h; omega)).keeps hkB (fun i hi h => by have h9 : i = g14 := h; omega)
                          have hq := (hq.trans hkA (fun i hi h => by have h9 : i = g13 := h; exact hgx (by omega))).trans hkB (fun i hi h => by have h9 : i = g14 := h; exact hgy (by omega))
                          have hsA := hkA.size
                          have hsB := hkB.size
                          go_wp2_with fail
                          go_meet
                          exact ⟨g13, g14, Aa, ca, Ab, cb, rfl, rfl, hbA.keeps hkB (fun h => hgg h.symm), hbB, hTa.mono (fun b hb => by omega), hTb.mono (fun b hb => by omega), hq⟩
                        exact AllT.nil
                      exact AllT.nil
                    exact AllT.nil
                  refine AllT.cons (o := { dst := some 17, op := Op.alloc 45, type := 0, pos := "types.go:415", after := #[], guard := none }) rfl (fun K hK => ?_) ?_
                  · (go_simp; generalize hw13 : World.alloc _ _ = x5; have hb13 : Blk x5 x4.heap.size 45 [.int .i64 0, .string ⟨#[]⟩, .int .i64 0, .slice none 0 0] := (by rw [← hw13]; exact Blk.new _ _ _); have hk5 : Keeps (fun _ => False) x4 x5 := (by rw [← hw13]; repeat (first | (with_reducible exact Keeps.refl _ _) | (with_reducible refine Keeps.drewN ?_ _) | (with_reducible refine Keeps.drew ?_) | with_reducible refine Keeps.alloc ?_ _)); have hl13 := hb13.lt; have hb14 := hb14.keeps hk5 (fun h => h); have hTa := hTa.keeps hk5 (fun _ _ h => h); have hnw : Sl x5 (fun b => b < x5.heap.size) dStr _ _ := (hnw.keeps hk5 (fun _ _ h => h)).mono (fun b hb => Nat.lt_of_lt_of_le hb hk5.size); have hs5 := hk5.size; have hq := hq.trans hk5 (fun _ _ h => h); clear hw13; obtain ⟨g13, hg13⟩ : ∃ g, x4.heap.size = g := ⟨_, rfl⟩; rw [hg13] at hb13 hl13 ⊢)
                    refine hK.out _ _ (fun _ => ?_) (fun hE => ?_)
                    · trivial
                    have hS := hE (by kernel_rfl)
                    clear hK K hE
                    try simp only [Act.put, List.setIfInBounds_toArray, List.set_cons_zero, List.set_cons_succ]
                    refine wpAnyT_ready (rs := [12]) (by kernel_rfl) rfl ?_
                    refine AllT.cons (o := { dst := some 85, op := Op.call { callee := Callee.value (Operand.tmp 76), args := #[Operand.tmp 84], argTypes := #[63] }, type := 45, pos := "types.go:415", after := #[⟨3, .data⟩, ⟨11, .data⟩, ⟨11, .chain⟩], guard := none }) rfl (fun K hK => ?_) ?_
                    · (go_simp; go_at_call 35; refine (build2 (N.drop kk ++ N.take kk) _ rb HRB.out _ x5 hnw (by repeat (first | (with_reducible exact Keeps.refl _ _) | (with_reducible refine Keeps.drewN ?_ _) | with_reducible refine Keeps.drew ?_))).mono ?_; rintro e x6 ⟨Ab, cb, rfl, hTb, hk6⟩; have hb13 := hb13.keeps hk6 (fun h => h); have hb14 := hb14.keeps hk6 (fun h => h); have hTa := hTa.keeps hk6 (fun _ _ h => h); have hs6 := hk6.size; have hq := hq.trans hk6 (fun _ _ h => h); go_wp2_with fail)
                      refine hK.out _ _ (fun _ => ?_) (fun hE => ?_)
                      · trivial
                      have hS := hE (by kernel_rfl)
                      clear hK K hE
                      try simp only [Act.put, List.setIfInBounds_toArray, List.set_cons_zero, List.set_cons_succ]
                      refine wpAnyT_ready (rs := [15]) (by kernel_rfl) rfl ?_
                      refine AllT.cons (o := { dst := none, op := Op.store 45 (Operand.tmp 17) (Operand.tmp 75), type := 0, pos := "types.go:415", after := #[⟨13, .data⟩, ⟨2, .data⟩, ⟨12, .chain⟩, ⟨0, .phase⟩, ⟨1, .phase⟩, ⟨2, .phase⟩, ⟨3, .textOnly .lateStores⟩, ⟨4, .textOnly .lateStores⟩, ⟨5, .textOnly .lateStores⟩, ⟨6, .textOnly .lateStoresUnsure⟩, ⟨7, .textOnly .lateStoresUnsure⟩, ⟨8, .textOnly .lateStores⟩, ⟨9, .textOnly .lateStores⟩, ⟨10, .textOnly .lateStoresUnsure⟩, ⟨11, .textOnly .lateStoresUnsure⟩, ⟨12, .textOnly .lateStoresUnsure⟩, ⟨13, .phase⟩, ⟨14, .phase⟩], guard := none }) rfl (fun K hK => ?_) ?_
                      · (have c0 := hb13.cell (i := 0) rfl; have f0 := hb13.free 0; have c1 := hb13.cell (i := 1) rfl; have f1 := hb13.free 1; have c2 := hb13.cell (i := 2) rfl; have f2 := hb13.free 2; have c3 := hb13.cell (i := 3) rfl; have f3 := hb13.free 3; go_simp)
                        refine hK.out _ _ (fun _ => ?_) (fun hE => ?_)
                        · trivial
                        have hS := hE (by kernel_rfl)
                        clear hK K hE
                        try simp only [Act.put, List.setIfInBounds_toArray, List.set_cons_zero, List.set_cons_succ]
                        refine wpAnyT_ready (rs := [16]) (by kernel_rfl) rfl ?_
                        refine AllT.cons (o := { dst := none, op := Op.store 45 (Operand.tmp 18) (Operand.tmp 85), type := 0, pos := "types.go:415", after := #[⟨14, .data⟩, ⟨12, .data⟩, ⟨15, .chain⟩, ⟨0, .phase⟩, ⟨1, .phase⟩, ⟨2, .phase⟩, ⟨3, .phase⟩, ⟨4, .phase⟩, ⟨5, .phase⟩, ⟨6, .phase⟩, ⟨7, .phase⟩, ⟨8, .phase⟩, ⟨9, .phase⟩, ⟨10, .phase⟩, ⟨11, .phase⟩, ⟨12, .phase⟩, ⟨13, .phase⟩, ⟨14, .phase⟩, ⟨15, .phase⟩], guard := none }) rfl (fun K hK => ?_) ?_
                        · (obtain ⟨hbA, hkA⟩ := four hb13 (.int .i64 ra.kind) (.string ra.name) (.int .i64 ra.var) (.slice Aa ra.args.length ca); have hgg : g14 ≠ g13 := (by omega); have hb14A := hb14.keeps hkA hgg; clear c0 c1 c2 c3 f0 f1 f2 f3; have c0 := hb14A.cell (i := 0) rfl; have f0 := hb14A.free 0; have c1 := hb14A.cell (i := 1) rfl; have f1 := hb14A.free 1; have c2 := hb14A.cell (i := 2) rfl; have f2 := hb14A.free 2; have c3 := hb14A.cell (i := 3) rfl; have f3 := hb14A.free 3; go_simp)
                          refine hK.out _ _ (fun _ => ?_) (fun hE => ?_)
                          · trivial
                          have hS := hE (by kernel_rfl)
                          clear hK K hE
                          try simp only [Act.put, List.setIfInBounds_toArray, List.set_cons_zero, List.set_cons_succ]
                          refine wpAnyT_done (by kernel_rfl) ?_ _
                          refine NoPanic.normal ?_
                          obtain ⟨hbB, hkB⟩ := four hb14A (.int .i64 rb.kind) (.string rb.name) (.int .i64 rb.var) (.slice Ab rb.args.length cb)
                          have hgx : g13 < wc.heap.size → False := fun h => by have := hg13; omega
                          have hgy : g14 < wc.heap.size → False := fun h => by have := hg14; omega
                          have hTa := (hTa.keeps hkA (fun i hi h => by have h9 : i = g13 := h; omega)).keeps hkB (fun i hi h => by have h9 : i = g14 := h; omega)
                          have hTb := (hTb.keeps hkA (fun i hi h => by have h9 : i = g13 := h; omega)).keeps hkB (fun i hi h => by have h9 : i = g14 := h; omega)
                          have hq := (hq.trans hkA (fun i hi h => by have h9 : i = g13 := h; exact hgx (by omega))).trans hkB (fun i hi h => by have h9 : i = g14 := h; exact hgy (by omega))
                          have hsA := hkA.size
                          have hsB := hkB.size
                          go_wp2_with fail
                          go_meet
                          exact ⟨g13, g14, Aa, ca, Ab, cb, rfl, rfl, hbA.keeps hkB (fun h => hgg h.symm), hbB, hTa.mono (fun b hb => by omega), hTb.mono (fun b hb => by omega), hq⟩
                        exact AllT.nil
                      exact AllT.nil
                    exact AllT.nil
                  exact AllT.nil
                refine AllT.cons (o := { dst := some 17, op := Op.alloc 45, type := 0, pos := "types.go:415", after := #[], guard := none }) rfl (fun K hK => ?_) ?_
                · (go_simp; generalize hw13 : World.alloc _ _ = x4; have hb13 : Blk x4 x3.heap.size 45 [.int .i64 0, .string ⟨#[]⟩, .int .i64 0, .slice none 0 0] := (by rw [← hw13]; exact Blk.new _ _ _); have hk4 : Keeps (fun _ => False) x3 x4 := (by rw [← hw13]; repeat (first | (with_reducible exact Keeps.refl _ _) | (with_reducible refine Keeps.drewN ?_ _) | (with_reducible refine Keeps.drew ?_) | with_reducible refine Keeps.alloc ?_ _)); have hl13 := hb13.lt; have hb14 := hb14.keeps hk4 (fun h => h); have hTa := hTa.keeps hk4 (fun _ _ h => h); have hown := own_keeps hown hk4 (fun _ _ h => h); have hs4 := hk4.size; have hq := hq.trans hk4 (fun _ _ h => h); clear hw13; obtain ⟨g13, hg13⟩ : ∃ g, x3.heap.size = g := ⟨_, rfl⟩; rw [hg13] at hb13 hl13 ⊢)
                  refine hK.out _ _ (fun _ => ?_) (fun hE => ?_)
                  · trivial
                  have hS := hE (by kernel_rfl)
                  clear hK K hE
                  try simp only [Act.put, List.setIfInBounds_toArray, List.set_cons_zero, List.set_cons_succ]
                  refine wpAnyT_ready (rs := [11]) (by kernel_rfl) rfl ?_
                  refine AllT.cons (o := { dst := some 84, op := Op.call { callee := Callee.builtin Builtin.append, args := #[Operand.tmp 80, Operand.tmp 83], argTypes := #[63, 63] }, type := 63, pos := "types.go:415", after := #[⟨7, .data⟩, ⟨10, .data⟩, ⟨7, .chain⟩], guard := none }) rfl (fun K hK => ?_) ?_
                  · (have hBs : B ≤ x4.heap.size := (by omega); refine step_append_sl _ rfl (.tmp 80) (.tmp 83) 63 rfl B 9 i0 _ 1 16 Tryd.underlying63 hi0 hz0 hz1 hz2 rfl (by decide) u (N.drop kk).length _ rfl hown dStr dStr.wide _ (N.take kk) _ kk cn rfl (HTk.out.keeps hq (fun _ _ h => h)) HM.out HBy.out hBs ?_; intro nv x5 news hnews hnown hgrow hat; have hk5 : Keeps (fun i => u.ownBlock = some i) x4 x5 := (Keeps.refl _ _).grown hgrow (fun i h _ => h); have hno13 : ¬ u.ownBlock = some g13 := (fun h => by have h9 := hul _ h; omega); have hno14 : ¬ u.ownBlock = some g14 := (fun h => by have h9 := hul _ h; omega); have hnoT : ∀ i, (wc.heap.size ≤ i ∧ i < x1.heap.size) → ¬ u.ownBlock = some i := (fun i hi h => by have h9 := hul _ h; omega); have hnoQ : ∀ i, i < wc.heap.size → u.ownBlock = some i → False := (fun i hi h => by have h9 := hul _ h; have := hq.size; omega); have hb13 := hb13.keeps hk5 (hno13); have hb14 := hb14.keeps hk5 (hno14); have hTa := hTa.keeps hk5 hnoT; have hs5 := hk5.size; have hq := hq.trans hk5 hnoQ; have hnw := moved hnews hnown HNs.out HKl.out)
                    refine hK.out _ _ (fun _ => ?_) (fun hE => ?_)
                    · trivial
                    have hS := hE (by kernel_rfl)
                    clear hK K hE
                    try simp only [Act.put, List.setIfInBounds_toArray, List.set_cons_zero, List.set_cons_succ]
                    refine wpAnyT_ready (rs := [12]) (by kernel_rfl) rfl ?_
                    refine AllT.cons (o := { dst := some 85, op := Op.call { callee := Callee.value (Operand.tmp 76), args := #[Operand.tmp 84], argTypes := #[63] }, type := 45, pos := "types.go:415", after := #[⟨3, .data⟩, ⟨11, .data⟩, ⟨11, .chain⟩], guard := none }) rfl (fun K hK => ?_) ?_
                    · (go_simp; go_at_call 35; refine (build2 (N.drop kk ++ N.take kk) _ rb HRB.out _ x5 hnw (by repeat (first | (with_reducible exact Keeps.refl _ _) | (with_reducible refine Keeps.drewN ?_ _) | with_reducible refine Keeps.drew ?_))).mono ?_; rintro e x6 ⟨Ab, cb, rfl, hTb, hk6⟩; have hb13 := hb13.keeps hk6 (fun h => h); have hb14 := hb14.keeps hk6 (fun h => h); have hTa := hTa.keeps hk6 (fun _ _ h => h); have hs6 := hk6.size; have hq := hq.trans hk6 (fun _ _ h => h); go_wp2_with fail)
                      refine hK.out _ _ (fun _ => ?_) (fun hE => ?_)
                      · trivial
                      have hS := hE (by kernel_rfl)
                      clear hK K hE
                      try simp only [Act.put, List.setIfInBounds_toArray, List.set_cons_zero, List.set_cons_succ]
                      refine wpAnyT_ready (rs := [15]) (by kernel_rfl) rfl ?_
                      refine AllT.cons (o := { dst := none, op := Op.store 45 (Operand.tmp 17) (Operand.tmp 75), type := 0, pos := "types.go:415", after := #[⟨13, .data⟩, ⟨2, .data⟩, ⟨12, .chain⟩, ⟨0, .phase⟩, ⟨1, .phase⟩, ⟨2, .phase⟩, ⟨3, .textOnly .lateStores⟩, ⟨4, .textOnly .lateStores⟩, ⟨5, .textOnly .lateStores⟩, ⟨6, .textOnly .lateStoresUnsure⟩, ⟨7, .textOnly .lateStoresUnsure⟩, ⟨8, .textOnly .lateStores⟩, ⟨9, .textOnly .lateStores⟩, ⟨10, .textOnly .lateStoresUnsure⟩, ⟨11, .textOnly .lateStoresUnsure⟩, ⟨12, .textOnly .lateStoresUnsure⟩, ⟨13, .phase⟩, ⟨14, .phase⟩], guard := none }) rfl (fun K hK => ?_) ?_
                      · (have c0 := hb13.cell (i := 0) rfl; have f0 := hb13.free 0; have c1 := hb13.cell (i := 1) rfl; have f1 := hb13.free 1; have c2 := hb13.cell (i := 2) rfl; have f2 := hb13.free 2; have c3 := hb13.cell (i := 3) rfl; have f3 := hb13.free 3; go_simp)
                        refine hK.out _ _ (fun _ => ?_) (fun hE => ?_)
                        · trivial
                        have hS := hE (by kernel_rfl)
                        clear hK K hE
                        try simp only [Act.put, List.setIfInBounds_toArray, List.set_cons_zero, List.set_cons_succ]
                        refine wpAnyT_ready (rs := [16]) (by kernel_rfl) rfl ?_
                        refine AllT.cons (o := { dst := none, op := Op.store 45 (Operand.tmp 18) (Operand.tmp 85), type := 0, pos := "types.go:415", after := #[⟨14, .data⟩, ⟨12, .data⟩, ⟨15, .chain⟩, ⟨0, .phase⟩, ⟨1, .phase⟩, ⟨2, .phase⟩, ⟨3, .phase⟩, ⟨4, .phase⟩, ⟨5, .phase⟩, ⟨6, .phase⟩, ⟨7, .phase⟩, ⟨8, .phase⟩, ⟨9, .phase⟩, ⟨10, .phase⟩, ⟨11, .phase⟩, ⟨12, .phase⟩, ⟨13, .phase⟩, ⟨14, .phase⟩, ⟨15, .phase⟩], guard := none }) rfl (fun K hK => ?_) ?_
                        · (obtain ⟨hbA, hkA⟩ := four hb13 (.int .i64 ra.kind) (.string ra.name) (.int .i64 ra.var) (.slice Aa ra.args.length ca); have hgg : g14 ≠ g13 := (by omega); have hb14A := hb14.keeps hkA hgg; clear c0 c1 c2 c3 f0 f1 f2 f3; have c0 := hb14A.cell (i := 0) rfl; have f0 := hb14A.free 0; have c1 := hb14A.cell (i := 1) rfl; have f1 := hb14A.free 1; have c2 := hb14A.cell (i := 2) rfl; have f2 := hb14A.free 2; have c3 := hb14A.cell (i := 3) rfl; have f3 := hb14A.free 3; go_simp)
                          refine hK.out _ _ (fun _ => ?_) (fun hE => ?_)
                          · trivial
                          have hS := hE (by kernel_rfl)
                          clear hK K hE
                          try simp only [Act.put, List.setIfInBounds_toArray, List.set_cons_zero, List.set_cons_succ]
                          refine wpAnyT_done (by kernel_rfl) ?_ _
                          refine NoPanic.normal ?_
                          obtain ⟨hbB, hkB⟩ := four hb14A (.int .i64 rb.kind) (.string rb.name) (.int .i64 rb.var) (.slice Ab rb.args.length cb)
                          have hgx : g13 < wc.heap.size → False := fun h => by have := hg13; omega
                          have hgy : g14 < wc.heap.size → False := fun h => by have := hg14; omega
                          have hTa := (hTa.keeps hkA (fun i hi h => by have h9 : i = g13 := h; omega)).keeps hkB (fun i hi h => by have h9 : i = g14 := h; omega)
                          have hTb := (hTb.keeps hkA (fun i hi h => by have h9 : i = g13 := h; omega)).keeps hkB (fun i hi h => by have h9 : i = g14 := h; omega)
                          have hq := (hq.trans hkA (fun i hi h => by have h9 : i = g13 := h; exact hgx (by omega))).trans hkB (fun i hi h => by have h9 : i = g14 := h; exact hgy (by omega))
                          have hsA := hkA.size
                          have hsB := hkB.size
                          go_wp2_with fail
                          go_meet
                          exact ⟨g13, g14, Aa, ca, Ab, cb, rfl, rfl, hbA.keeps hkB (fun h => hgg h.symm), hbB, hTa.mono (fun b hb => by omega), hTb.mono (fun b hb => by omega), hq⟩
                        exact AllT.nil
                      exact AllT.nil
                    exact AllT.nil
                  exact AllT.nil
                exact AllT.nil
              exact AllT.nil
            refine AllT.cons (o := { dst := some 17, op := Op.alloc 45, type := 0, pos := "types.go:415", after := #[], guard := none }) rfl (fun K hK => ?_) ?_
            · (go_simp; generalize hw13 : World.alloc _ _ = x2; have hb13 : Blk x2 x1.heap.size 45 [.int .i64 0, .string ⟨#[]⟩, .int .i64 0, .slice none 0 0] := (by rw [← hw13]; exact Blk.new _ _ _); have hk2 : Keeps (fun _ => False) x1 x2 := (by rw [← hw13]; repeat (first | (with_reducible exact Keeps.refl _ _) | (with_reducible refine Keeps.drewN ?_ _) | (with_reducible refine Keeps.drew ?_) | with_reducible refine Keeps.alloc ?_ _)); have hl13 := hb13.lt; have hTa := hTa.keeps hk2 (fun _ _ h => h); have hs2 := hk2.size; have hq := hq.trans hk2 (fun _ _ h => h); clear hw13; obtain ⟨g13, hg13⟩ : ∃ g, x1.heap.size = g := ⟨_, rfl⟩; rw [hg13] at hb13 hl13 ⊢)
              refine hK.out _ _ (fun _ => ?_) (fun hE => ?_)
              · trivial
              have hS := hE (by kernel_rfl)
              clear hK K hE
              try simp only [Act.put, List.setIfInBounds_toArray, List.set_cons_zero, List.set_cons_succ]
              refine wpAnyT_ready (rs := [7, 14]) (by kernel_rfl) rfl ?_
              refine AllT.cons (o := { dst := some 80, op := Op.call { callee := Callee.value (Operand.func 36), args := #[Operand.tmp 79], argTypes := #[63] }, type := 63, pos := "types.go:415", after := #[⟨6, .data⟩, ⟨2, .chain⟩], guard := none }) rfl (fun K hK => ?_) ?_
              · (go_simp; go_at_call 36; refine (HCl.out _ x2 (hq.trans (by repeat (first | (with_reducible exact Keeps.refl _ _) | (with_reducible refine Keeps.drewN ?_ _) | with_reducible refine Keeps.drew ?_)) (fun _ _ h => h)) (by repeat (first | (with_reducible exact Keeps.refl _ _) | (with_reducible refine Keeps.drewN ?_ _) | with_reducible refine Keeps.drew ?_))).mono ?_; rintro e x3 ⟨u, B, rfl, hBl, hBh, hown, hul, hk3⟩; have hb13 := hb13.keeps hk3 (fun h => h); have hTa := hTa.keeps hk3 (fun _ _ h => h); have hs3 := hk3.size; have hq := hq.trans hk3 (fun _ _ h => h); go_wp2_with fail)
                refine hK.out _ _ (fun _ => ?_) (fun hE => ?_)
                · trivial
                have hS := hE (by kernel_rfl)
                clear hK K hE
                try simp only [Act.put, List.setIfInBounds_toArray, List.set_cons_zero, List.set_cons_succ]
                refine wpAnyT_ready (rs := [11, 14]) (by kernel_rfl) rfl ?_
                refine AllT.cons (o := { dst := some 84, op := Op.call { callee := Callee.builtin Builtin.append, args := #[Operand.tmp 80, Operand.tmp 83], argTypes := #[63, 63] }, type := 63, pos := "types.go:415", after := #[⟨7, .data⟩, ⟨10, .data⟩, ⟨7, .chain⟩], guard := none }) rfl (fun K hK => ?_) ?_
                · (have hBs : B ≤ x3.heap.size := (by omega); refine step_append_sl _ rfl (.tmp 80) (.tmp 83) 63 rfl B 9 i0 _ 1 16 Tryd.underlying63 hi0 hz0 hz1 hz2 rfl (by decide) u (N.drop kk).length _ rfl hown dStr dStr.wide _ (N.take kk) _ kk cn rfl (HTk.out.keeps hq (fun _ _ h => h)) HM.out HBy.out hBs ?_; intro nv x4 news hnews hnown hgrow hat; have hk4 : Keeps (fun i => u.ownBlock = some i) x3 x4 := (Keeps.refl _ _).grown hgrow (fun i h _ => h); have hno13 : ¬ u.ownBlock = some g13 := (fun h => by have h9 := hul _ h; omega); have hnoT : ∀ i, (wc.heap.size ≤ i ∧ i < x1.heap.size) → ¬ u.ownBlock = some i := (fun i hi h => by have h9 := hul _ h; omega); have hnoQ : ∀ i, i < wc.heap.size → u.ownBlock = some i → False := (fun i hi h => by have h9 := hul _ h; have := hq.size; omega); have hb13 := hb13.keeps hk4 (hno13); have hTa := hTa.keeps hk4 hnoT; have hs4 := hk4.size; have hq := hq.trans hk4 hnoQ; have hnw := moved hnews hnown HNs.out HKl.out)
                  refine hK.out _ _ (fun _ => ?_) (fun hE => ?_)
                  · trivial
                  have hS := hE (by kernel_rfl)
                  clear hK K hE
                  try simp only [Act.put, List.setIfInBounds_toArray, List.set_cons_zero, List.set_cons_succ]
                  refine wpAnyT_ready (rs := [12, 14]) (by kernel_rfl) rfl ?_
                  refine AllT.cons (o := { dst := some 85, op := Op.call { callee := Callee.value (Operand.tmp 76), args := #[Operand.tmp 84], argTypes := #[63] }, type := 45, pos := "types.go:415", after := #[⟨3, .data⟩, ⟨11, .data⟩, ⟨11, .chain⟩], guard := none }) rfl (fun K hK => ?_) ?_
                  · (go_simp; go_at_call 35; refine (build2 (N.drop kk ++ N.take kk) _ rb HRB.out _ x4 hnw (by repeat (first | (with_reducible exact Keeps.refl _ _) | (with_reducible refine Keeps.drewN ?_ _) | with_reducible refine Keeps.drew ?_))).mono ?_; rintro e x5 ⟨Ab, cb, rfl, hTb, hk5⟩; have hb13 := hb13.keeps hk5 (fun h => h); have hTa := hTa.keeps hk5 (fun _ _ h => h); have hs5 := hk5.size; have hq := hq.trans hk5 (fun _ _ h => h); go_wp2_with fail)
                    refine hK.out _ _ (fun _ => ?_) (fun hE => ?_)
                    · trivial
                    have hS := hE (by kernel_rfl)
                    clear hK K hE
                    try simp only [Act.put, List.setIfInBounds_toArray, List.set_cons_zero, List.set_cons_succ]
                    refine wpAnyT_ready (rs := [14]) (by kernel_rfl) rfl ?_
                    refine AllT.cons (o := { dst := some 18, op := Op.alloc 45, type := 0, pos := "types.go:415", after := #[], guard := none }) rfl (fun K hK => ?_) ?_
                    · (go_simp; generalize hw14 : World.alloc _ _ = x6; have hb14 : Blk x6 x5.heap.size 45 [.int .i64 0, .string ⟨#[]⟩, .int .i64 0, .slice none 0 0] := (by rw [← hw14]; exact Blk.new _ _ _); have hk6 : Keeps (fun _ => False) x5 x6 := (by rw [← hw14]; repeat (first | (with_reducible exact Keeps.refl _ _) | (with_reducible refine Keeps.drewN ?_ _) | (with_reducible refine Keeps.drew ?_) | with_reducible refine Keeps.alloc ?_ _)); have hl14 := hb14.lt; have hb13 := hb13.keeps hk6 (fun h => h); have hTa := hTa.keeps hk6 (fun _ _ h => h); have hTb := hTb.keeps hk6 (fun _ _ h => h); have hs6 := hk6.size; have hq := hq.trans hk6 (fun _ _ h => h); clear hw14; obtain ⟨g14, hg14⟩ : ∃ g, x5.heap.size = g := ⟨_, rfl⟩; rw [hg14] at hb14 hl14 ⊢)
                      refine hK.out _ _ (fun _ => ?_) (fun hE => ?_)
                      · trivial
                      have hS := hE (by kernel_rfl)
                      clear hK K hE
                      try simp only [Act.put, List.setIfInBounds_toArray, List.set_cons_zero, List.set_cons_succ]
                      refine wpAnyT_ready (rs := [15]) (by kernel_rfl) rfl ?_
                      refine AllT.cons (o := { dst := none, op := Op.store 45 (Operand.tmp 17) (Operand.tmp 75), type := 0, pos := "types.go:415", after := #[⟨13, .data⟩, ⟨2, .data⟩, ⟨12, .chain⟩, ⟨0, .phase⟩, ⟨1, .phase⟩, ⟨2, .phase⟩, ⟨3, .textOnly .lateStores⟩, ⟨4, .textOnly .lateStores⟩, ⟨5, .textOnly .lateStores⟩, ⟨6, .textOnly .lateStoresUnsure⟩, ⟨7, .textOnly .lateStoresUnsure⟩, ⟨8, .textOnly .lateStores⟩, ⟨9, .textOnly .lateStores⟩, ⟨10, .textOnly .lateStoresUnsure⟩, ⟨11, .textOnly .lateStoresUnsure⟩, ⟨12, .textOnly .lateStoresUnsure⟩, ⟨13, .phase⟩, ⟨14, .phase⟩], guard := none }) rfl (fun K hK => ?_) ?_
                      · (have c0 := hb13.cell (i := 0) rfl; have f0 := hb13.free 0; have c1 := hb13.cell (i := 1) rfl; have f1 := hb13.free 1; have c2 := hb13.cell (i := 2) rfl; have f2 := hb13.free 2; have c3 := hb13.cell (i := 3) rfl; have f3 := hb13.free 3; go_simp)
                        refine hK.out _ _ (fun _ => ?_) (fun hE => ?_)
                        · trivial
                        have hS := hE (by kernel_rfl)
                        clear hK K hE
                        try simp only [Act.put, List.setIfInBounds_toArray, List.set_cons_zero, List.set_cons_succ]
                        refine wpAnyT_ready (rs := [16]) (by kernel_rfl) rfl ?_
                        refine AllT.cons (o := { dst := none, op := Op.store 45 (Operand.tmp 18) (Operand.tmp 85), type := 0, pos := "types.go:415", after := #[⟨14, .data⟩, ⟨12, .data⟩, ⟨15, .chain⟩, ⟨0, .phase⟩, ⟨1, .phase⟩, ⟨2, .phase⟩, ⟨3, .phase⟩, ⟨4, .phase⟩, ⟨5, .phase⟩, ⟨6, .phase⟩, ⟨7, .phase⟩, ⟨8, .phase⟩, ⟨9, .phase⟩, ⟨10, .phase⟩, ⟨11, .phase⟩, ⟨12, .phase⟩, ⟨13, .phase⟩, ⟨14, .phase⟩, ⟨15, .phase⟩], guard := none }) rfl (fun K hK => ?_) ?_
                        · (obtain ⟨hbA, hkA⟩ := four hb13 (.int .i64 ra.kind) (.string ra.name) (.int .i64 ra.var) (.slice Aa ra.args.length ca); have hgg : g14 ≠ g13 := (by omega); have hb14A := hb14.keeps hkA hgg; clear c0 c1 c2 c3 f0 f1 f2 f3; have c0 := hb14A.cell (i := 0) rfl; have f0 := hb14A.free 0; have c1 := hb14A.cell (i := 1) rfl; have f1 := hb14A.free 1; have c2 := hb14A.cell (i := 2) rfl; have f2 := hb14A.free 2; have c3 := hb14A.cell (i := 3) rfl; have f3 := hb14A.free 3; go_simp)
                          refine hK.out _ _ (fun _ => ?_) (fun hE => ?_)
                          · trivial
                          have hS := hE (by kernel_rfl)
                          clear hK K hE
                          try simp only [Act.put, List.setIfInBounds_toArray, List.set_cons_zero, List.set_cons_succ]
                          refine wpAnyT_done (by kernel_rfl) ?_ _
                          refine NoPanic.normal ?_
                          obtain ⟨hbB, hkB⟩ := four hb14A (.int .i64 rb.kind) (.string rb.name) (.int .i64 rb.var) (.slice Ab rb.args.length cb)
                          have hgx : g13 < wc.heap.size → False := fun h => by have := hg13; omega
                          have hgy : g14 < wc.heap.size → False := fun h => by have := hg14; omega
                          have hTa := (hTa.keeps hkA (fun i hi h => by have h9 : i = g13 := h; omega)).keeps hkB (fun i hi h => by have h9 : i = g14 := h; omega)
                          have hTb := (hTb.keeps hkA (fun i hi h => by have h9 : i = g13 := h; omega)).keeps hkB (fun i hi h => by have h9 : i = g14 := h; omega)
                          have hq := (hq.trans hkA (fun i hi h => by have h9 : i = g13 := h; exact hgx (by omega))).trans hkB (fun i hi h => by have h9 : i = g14 := h; exact hgy (by omega))
                          have hsA := hkA.size
                          have hsB := hkB.size
                          go_wp2_with fail
                          go_meet
                          exact ⟨g13, g14, Aa, ca, Ab, cb, rfl, rfl, hbA.keeps hkB (fun h => hgg h.symm), hbB, hTa.mono (fun b hb => by omega), hTb.mono (fun b hb => by omega), hq⟩
                        exact AllT.nil
                      exact AllT.nil
                    exact AllT.nil
                  refine AllT.cons (o := { dst := some 18, op := Op.alloc 45, type := 0, pos := "types.go:415", after := #[], guard := none }) rfl (fun K hK => ?_) ?_
                  · (go_simp; generalize hw14 : World.alloc _ _ = x5; have hb14 : Blk x5 x4.heap.size 45 [.int .i64 0, .string ⟨#[]⟩, .int .i64 0, .slice none 0 0] := (by rw [← hw14]; exact Blk.new _ _ _); have hk5 : Keeps (fun _ => False) x4 x5 := (by rw [← hw14]; repeat (first | (with_reducible exact Keeps.refl _ _) | (with_reducible refine Keeps.drewN ?_ _) | (with_reducible refine Keeps.drew ?_) | with_reducible refine Keeps.alloc ?_ _)); have hl14 := hb14.lt; have hb13 := hb13.keeps hk5 (fun h => h); have hTa := hTa.keeps hk5 (fun _ _ h => h); have hnw : Sl x5 (fun b => b < x5.heap.size) dStr _ _ := (hnw.keeps hk5 (fun _ _ h => h)).mono (fun b hb => Nat.lt_of_lt_of_le hb hk5.size); have hs5 := hk5.size; have hq := hq.trans hk5 (fun _ _ h => h); clear hw14; obtain ⟨g14, hg14⟩ : ∃ g, x4.heap.size = g := ⟨_, rfl⟩; rw [hg14] at hb14 hl14 ⊢)
                    refine hK.out _ _ (fun _ => ?_) (fun hE => ?_)
                    · trivial
                    have hS := hE (by kernel_rfl)
                    clear hK K hE
                    try simp only [Act.put, List.setIfInBounds_toArray, List.set_cons_zero, List.set_cons_succ]
                    refine wpAnyT_ready (rs := [12]) (by kernel_rfl) rfl ?_
                    refine AllT.cons (o := { dst := some 85, op := Op.call { callee := Callee.value (Operand.tmp 76), args := #[Operand.tmp 84], argTypes := #[63] }, type := 45, pos := "types.go:415", after := #[⟨3, .data⟩, ⟨11, .data⟩, ⟨11, .chain⟩], guard := none }) rfl (fun K hK => ?_) ?_
                    · (go_simp; go_at_call 35; refine (build2 (N.drop kk ++ N.take kk) _ rb HRB.out _ x5 hnw (by repeat (first | (with_reducible exact Keeps.refl _ _) | (with_reducible refine Keeps.drewN ?_ _) | with_reducible refine Keeps.drew ?_))).mono ?_; rintro e x6 ⟨Ab, cb, rfl, hTb, hk6⟩; have hb13 := hb13.keeps hk6 (fun h => h); have hb14 := hb14.keeps hk6 (fun h => h); have hTa := hTa.keeps hk6 (fun _ _ h => h); have hs6 := hk6.size; have hq := hq.trans hk6 (fun _ _ h => h); go_wp2_with fail)
                      refine hK.out _ _ (fun _ => ?_) (fun hE => ?_)
                      · trivial
                      have hS := hE (by kernel_rfl)
                      clear hK K hE
                      try simp only [Act.put, List.setIfInBounds_toArray, List.set_cons_zero, List.set_cons_succ]
                      refine wpAnyT_ready (rs := [15]) (by kernel_rfl) rfl ?_
                      refine AllT.cons (o := { dst := none, op := Op.store 45 (Operand.tmp 17) (Operand.tmp 75), type := 0, pos := "types.go:415", after := #[⟨13, .data⟩, ⟨2, .data⟩, ⟨12, .chain⟩, ⟨0, .phase⟩, ⟨1, .phase⟩, ⟨2, .phase⟩, ⟨3, .textOnly .lateStores⟩, ⟨4, .textOnly .lateStores⟩, ⟨5, .textOnly .lateStores⟩, ⟨6, .textOnly .lateStoresUnsure⟩, ⟨7, .textOnly .lateStoresUnsure⟩, ⟨8, .textOnly .lateStores⟩, ⟨9, .textOnly .lateStores⟩, ⟨10, .textOnly .lateStoresUnsure⟩, ⟨11, .textOnly .lateStoresUnsure⟩, ⟨12, .textOnly .lateStoresUnsure⟩, ⟨13, .phase⟩, ⟨14, .phase⟩], guard := none }) rfl (fun K hK => ?_) ?_
                      · (have c0 := hb13.cell (i := 0) rfl; have f0 := hb13.free 0; have c1 := hb13.cell (i := 1) rfl; have f1 := hb13.free 1; have c2 := hb13.cell (i := 2) rfl; have f2 := hb13.free 2; have c3 := hb13.cell (i := 3) rfl; have f3 := hb13.free 3; go_simp)
                        refine hK.out _ _ (fun _ => ?_) (fun hE => ?_)
                        · trivial
                        have hS := hE (by kernel_rfl)
                        clear hK K hE
                        try simp only [Act.put, List.setIfInBounds_toArray, List.set_cons_zero, List.set_cons_succ]
                        refine wpAnyT_ready (rs := [16]) (by kernel_rfl) rfl ?_
                        refine AllT.cons (o := { dst := none, op := Op.store 45 (Operand.tmp 18) (Operand.tmp 85), type := 0, pos := "types.go:415", after := #[⟨14, .data⟩, ⟨12, .data⟩, ⟨15, .chain⟩, ⟨0, .phase⟩, ⟨1, .phase⟩, ⟨2, .phase⟩, ⟨3, .phase⟩, ⟨4, .phase⟩, ⟨5, .phase⟩, ⟨6, .phase⟩, ⟨7, .phase⟩, ⟨8, .phase⟩, ⟨9, .phase⟩, ⟨10, .phase⟩, ⟨11, .phase⟩, ⟨12, .phase⟩, ⟨13, .phase⟩, ⟨14, .phase⟩, ⟨15, .phase⟩], guard := none }) rfl (fun K hK => ?_) ?_
                        · (obtain ⟨hbA, hkA⟩ := four hb13 (.int .i64 ra.kind) (.string ra.name) (.int .i64 ra.var) (.slice Aa ra.args.length ca); have hgg : g14 ≠ g13 := (by omega); have hb14A := hb14.keeps hkA hgg; clear c0 c1 c2 c3 f0 f1 f2 f3; have c0 := hb14A.cell (i := 0) rfl; have f0 := hb14A.free 0; have c1 := hb14A.cell (i := 1) rfl; have f1 := hb14A.free 1; have c2 := hb14A.cell (i := 2) rfl; have f2 := hb14A.free 2; have c3 := hb14A.cell (i := 3) rfl; have f3 := hb14A.free 3; go_simp)
                          refine hK.out _ _ (fun _ => ?_) (fun hE => ?_)
                          · trivial
                          have hS := hE (by kernel_rfl)
                          clear hK K hE
                          try simp only [Act.put, List.setIfInBounds_toArray, List.set_cons_zero, List.set_cons_succ]
                          refine wpAnyT_done (by kernel_rfl) ?_ _
                          refine NoPanic.normal ?_
                          obtain ⟨hbB, hkB⟩ := four hb14A (.int .i64 rb.kind) (.string rb.name) (.int .i64 rb.var) (.slice Ab rb.args.length cb)
                          have hgx : g13 < wc.heap.size → False := fun h => by have := hg13; omega
                          have hgy : g14 < wc.heap.size → False := fun h => by have := hg14; omega
                          have hTa := (hTa.keeps hkA (fun i hi h => by have h9 : i = g13 := h; omega)).keeps hkB (fun i hi h => by have h9 : i = g14 := h; omega)
                          have hTb := (hTb.keeps hkA (fun i hi h => by have h9 : i = g13 := h; omega)).keeps hkB (fun i hi h => by have h9 : i = g14 := h; omega)
                          have hq := (hq.trans hkA (fun i hi h => by have h9 : i = g13 := h; exact hgx (by omega))).trans hkB (fun i hi h => by have h9 : i = g14 := h; exact hgy (by omega))
                          have hsA := hkA.size
                          have hsB := hkB.size
                          go_wp2_with fail
                          go_meet
                          exact ⟨g13, g14, Aa, ca, Ab, cb, rfl, rfl, hbA.keeps hkB (fun h => hgg h.symm), hbB, hTa.mono (fun b hb => by omega), hTb.mono (fun b hb => by omega), hq⟩
                        exact AllT.nil
                      exact AllT.nil
                    exact AllT.nil
                  exact AllT.nil
                refine AllT.cons (o := { dst := some 18, op := Op.alloc 45, type := 0, pos := "types.go:415", after := #[], guard := none }) rfl (fun K hK => ?_) ?_
                · (go_simp; generalize hw14 : World.alloc _ _ = x4; have hb14 : Blk x4 x3.heap.size 45 [.int .i64 0, .string ⟨#[]⟩, .int .i64 0, .slice none 0 0] := (by rw [← hw14]; exact Blk.new _ _ _); have hk4 : Keeps (fun _ => False) x3 x4 := (by rw [← hw14]; repeat (first | (with_reducible exact Keeps.refl _ _) | (with_reducible refine Keeps.drewN ?_ _) | (with_reducible refine Keeps.drew ?_) | with_reducible refine Keeps.alloc ?_ _)); have hl14 := hb14.lt; have hb13 := hb13.keeps hk4 (fun h => h); have hTa := hTa.keeps hk4 (fun _ _ h => h); have hown := own_keeps hown hk4 (fun _ _ h => h); have hs4 := hk4.size; have hq := hq.trans hk4 (fun _ _ h => h); clear hw14; obtain ⟨g14, hg14⟩ : ∃ g, x3.heap.size = g := ⟨_, rfl⟩; rw [hg14] at hb14 hl14 ⊢)
                  refine hK.out _ _ (fun _ => ?_) (fun hE => ?_)
                  · trivial
                  have hS := hE (by kernel_rfl)
                  clear hK K hE
                  try simp only [Act.put, List.setIfInBounds_toArray, List.set_cons_zero, List.set_cons_succ]
                  refine wpAnyT_ready (rs := [11]) (by kernel_rfl) rfl ?_
                  refine AllT.cons (o := { dst := some 84, op := Op.call { callee := Callee.builtin Builtin.append, args := #[Operand.tmp 80, Operand.tmp 83], argTypes := #[63, 63] }, type := 63, pos := "types.go:415", after := #[⟨7, .data⟩, ⟨10, .data⟩, ⟨7, .chain⟩], guard := none }) rfl (fun K hK => ?_) ?_
                  · (have hBs : B ≤ x4.heap.size := (by omega); refine step_append_sl _ rfl (.tmp 80) (.tmp 83) 63 rfl B 9 i0 _ 1 16 Tryd.underlying63 hi0 hz0 hz1 hz2 rfl (by decide) u (N.drop kk).length _ rfl hown dStr dStr.wide _ (N.take kk) _ kk cn rfl (HTk.out.keeps hq (fun _ _ h => h)) HM.out HBy.out hBs ?_; intro nv x5 news hnews hnown hgrow hat; have hk5 : Keeps (fun i => u.ownBlock = some i) x4 x5 := (Keeps.refl _ _).grown hgrow (fun i h _ => h); have hno13 : ¬ u.ownBlock = some g13 := (fun h => by have h9 := hul _ h; omega); have hno14 : ¬ u.ownBlock = some g14 := (fun h => by have h9 := hul _ h; omega); have hnoT : ∀ i, (wc.heap.size ≤ i ∧ i < x1.heap.size) → ¬ u.ownBlock = some i := (fun i hi h => by have h9 := hul _ h; omega); have hnoQ : ∀ i, i < wc.heap.size → u.ownBlock = some i → False := (fun i hi h => by have h9 := hul _ h; have := hq.size; omega); have hb13 := hb13.keeps hk5 (hno13); have hb14 := hb14.keeps hk5 (hno14); have hTa := hTa.keeps hk5 hnoT; have hs5 := hk5.size; have hq := hq.trans hk5 hnoQ; have hnw := moved hnews hnown HNs.out HKl.out)
                    refine hK.out _ _ (fun _ => ?_) (fun hE => ?_)
                    · trivial
                    have hS := hE (by kernel_rfl)
                    clear hK K hE
                    try simp only [Act.put, List.setIfInBounds_toArray, List.set_cons_zero, List.set_cons_succ]
                    refine wpAnyT_ready (rs := [12]) (by kernel_rfl) rfl ?_
                    refine AllT.cons (o := { dst := some 85, op := Op.call { callee := Callee.value (Operand.tmp 76), args := #[Operand.tmp 84], argTypes := #[63] }, type := 45, pos := "types.go:415", after := #[⟨3, .data⟩, ⟨11, .data⟩, ⟨11, .chain⟩], guard := none }) rfl (fun K hK => ?_) ?_
                    · (go_simp; go_at_call 35; refine (build2 (N.drop kk ++ N.take kk) _ rb HRB.out _ x5 hnw (by repeat (first | (with_reducible exact Keeps.refl _ _) | (with_reducible refine Keeps.drewN ?_ _) | with_reducible refine Keeps.drew ?_))).mono ?_; rintro e x6 ⟨Ab, cb, rfl, hTb, hk6⟩; have hb13 := hb13.keeps hk6 (fun h => h); have hb14 := hb14.keeps hk6 (fun h => h); have hTa := hTa.keeps hk6 (fun _ _ h => h); have hs6 := hk6.size; have hq := hq.trans hk6 (fun _ _ h => h); go_wp2_with fail)
                      refine hK.out _ _ (fun _ => ?_) (fun hE => ?_)
                      · trivial
                      have hS := hE (by kernel_rfl)
                      clear hK K hE
                      try simp only [Act.put, List.setIfInBounds_toArray, List.set_cons_zero, List.set_cons_succ]
                      refine wpAnyT_ready (rs := [15]) (by kernel_rfl) rfl ?_
                      refine AllT.cons (o := { dst := none, op := Op.store 45 (Operand.tmp 17) (Operand.tmp 75), type := 0, pos := "types.go:415", after := #[⟨13, .data⟩, ⟨2, .data⟩, ⟨12, .chain⟩, ⟨0, .phase⟩, ⟨1, .phase⟩, ⟨2, .phase⟩, ⟨3, .textOnly .lateStores⟩, ⟨4, .textOnly .lateStores⟩, ⟨5, .textOnly .lateStores⟩, ⟨6, .textOnly .lateStoresUnsure⟩, ⟨7, .textOnly .lateStoresUnsure⟩, ⟨8, .textOnly .lateStores⟩, ⟨9, .textOnly .lateStores⟩, ⟨10, .textOnly .lateStoresUnsure⟩, ⟨11, .textOnly .lateStoresUnsure⟩, ⟨12, .textOnly .lateStoresUnsure⟩, ⟨13, .phase⟩, ⟨14, .phase⟩], guard := none }) rfl (fun K hK => ?_) ?_
                      · (have c0 := hb13.cell (i := 0) rfl; have f0 := hb13.free 0; have c1 := hb13.cell (i := 1) rfl; have f1 := hb13.free 1; have c2 := hb13.cell (i := 2) rfl; have f2 := hb13.free 2; have c3 := hb13.cell (i := 3) rfl; have f3 := hb13.free 3; go_simp)
                        refine hK.out _ _ (fun _ => ?_) (fun hE => ?_)
                        · trivial
                        have hS := hE (by kernel_rfl)
                        clear hK K hE
                        try simp only [Act.put, List.setIfInBounds_toArray, List.set_cons_zero, List.set_cons_succ]
                        refine wpAnyT_ready (rs := [16]) (by kernel_rfl) rfl ?_
                        refine AllT.cons (o := { dst := none, op := Op.store 45 (Operand.tmp 18) (Operand.tmp 85), type := 0, pos := "types.go:415", after := #[⟨14, .data⟩, ⟨12, .data⟩, ⟨15, .chain⟩, ⟨0, .phase⟩, ⟨1, .phase⟩, ⟨2, .phase⟩, ⟨3, .phase⟩, ⟨4, .phase⟩, ⟨5, .phase⟩, ⟨6, .phase⟩, ⟨7, .phase⟩, ⟨8, .phase⟩, ⟨9, .phase⟩, ⟨10, .phase⟩, ⟨11, .phase⟩, ⟨12, .phase⟩, ⟨13, .phase⟩, ⟨14, .phase⟩, ⟨15, .phase⟩], guard := none }) rfl (fun K hK => ?_) ?_
                        · (obtain ⟨hbA, hkA⟩ := four hb13 (.int .i64 ra.kind) (.string ra.name) (.int .i64 ra.var) (.slice Aa ra.args.length ca); have hgg : g14 ≠ g13 := (by omega); have hb14A := hb14.keeps hkA hgg; clear c0 c1 c2 c3 f0 f1 f2 f3; have c0 := hb14A.cell (i := 0) rfl; have f0 := hb14A.free 0; have c1 := hb14A.cell (i := 1) rfl; have f1 := hb14A.free 1; have c2 := hb14A.cell (i := 2) rfl; have f2 := hb14A.free 2; have c3 := hb14A.cell (i := 3) rfl; have f3 := hb14A.free 3; go_simp)
                          refine hK.out _ _ (fun _ => ?_) (fun hE => ?_)
                          · trivial
                          have hS := hE (by kernel_rfl)
                          clear hK K hE
                          try simp only [Act.put, List.setIfInBounds_toArray, List.set_cons_zero, List.set_cons_succ]
                          refine wpAnyT_done (by kernel_rfl) ?_ _
                          refine NoPanic.normal ?_
                          obtain ⟨hbB, hkB⟩ := four hb14A (.int .i64 rb.kind) (.string rb.name) (.int .i64 rb.var) (.slice Ab rb.args.length cb)
                          have hgx : g13 < wc.heap.size → False := fun h => by have := hg13; omega
                          have hgy : g14 < wc.heap.size → False := fun h => by have := hg14; omega
                          have hTa := (hTa.keeps hkA (fun i hi h => by have h9 : i = g13 := h; omega)).keeps hkB (fun i hi h => by have h9 : i = g14 := h; omega)
                          have hTb := (hTb.keeps hkA (fun i hi h => by have h9 : i = g13 := h; omega)).keeps hkB (fun i hi h => by have h9 : i = g14 := h; omega)
                          have hq := (hq.trans hkA (fun i hi h => by have h9 : i = g13 := h; exact hgx (by omega))).trans hkB (fun i hi h => by have h9 : i = g14 := h; exact hgy (by omega))
                          have hsA := hkA.size
                          have hsB := hkB.size
                          go_wp2_with fail
                          go_meet
                          exact ⟨g13, g14, Aa, ca, Ab, cb, rfl, rfl, hbA.keeps hkB (fun h => hgg h.symm), hbB, hTa.mono (fun b hb => by omega), hTb.mono (fun b hb => by omega), hq⟩
                        exact AllT.nil
                      exact AllT.nil
                    exact AllT.nil
                  exact AllT.nil
                exact AllT.nil
              refine AllT.cons (o := { dst := some 18, op := Op.alloc 45, type := 0, pos := "types.go:415", after := #[], guard := none }) rfl (fun K hK => ?_) ?_
              · (go_simp; generalize hw14 : World.alloc _ _ = x3; have hb14 : Blk x3 x2.heap.size 45 [.int .i64 0, .string ⟨#[]⟩, .int .i64 0, .slice none 0 0] := (by rw [← hw14]; exact Blk.new _ _ _); have hk3 : Keeps (fun _ => False) x2 x3 := (by rw [← hw14]; repeat (first | (with_reducible exact Keeps.refl _ _) | (with_reducible refine Keeps.drewN ?_ _) | (with_reducible refine Keeps.drew ?_) | with_reducible refine Keeps.alloc ?_ _)); have hl14 := hb14.lt; have hb13 := hb13.keeps hk3 (fun h => h); have hTa := hTa.keeps hk3 (fun _ _ h => h); have hs3 := hk3.size; have hq := hq.trans hk3 (fun _ _ h => h); clear hw14; obtain ⟨g14, hg14⟩ : ∃ g, x2.heap.size = g := ⟨_, rfl⟩; rw [hg14] at hb14 hl14 ⊢)
                refine hK.out _ _ (fun _ => ?_) (fun hE => ?_)
                · trivial
                have hS := hE (by kernel_rfl)
                clear hK K hE
                try simp only [Act.put, List.setIfInBounds_toArray, List.set_cons_zero, List.set_cons_succ]
                refine wpAnyT_ready (rs := [7]) (by kernel_rfl) rfl ?_
                refine AllT.cons (o := { dst := some 80, op := Op.call { callee := Callee.value (Operand.func 36), args := #[Operand.tmp 79], argTypes := #[63] }, type := 63, pos := "types.go:415", after := #[⟨6, .data⟩, ⟨2, .chain⟩], guard := none }) rfl (fun K hK => ?_) ?_
                · (go_simp; go_at_call 36; refine (HCl.out _ x3 (hq.trans (by repeat (first | (with_reducible exact Keeps.refl _ _) | (with_reducible refine Keeps.drewN ?_ _) | with_reducible refine Keeps.drew ?_)) (fun _ _ h => h)) (by repeat (first | (with_reducible exact Keeps.refl _ _) | (with_reducible refine Keeps.drewN ?_ _) | with_reducible refine Keeps.drew ?_))).mono ?_; rintro e x4 ⟨u, B, rfl, hBl, hBh, hown, hul, hk4⟩; have hb13 := hb13.keeps hk4 (fun h => h); have hb14 := hb14.keeps hk4 (fun h => h); have hTa := hTa.keeps hk4 (fun _ _ h => h); have hs4 := hk4.size; have hq := hq.trans hk4 (fun _ _ h => h); go_wp2_with fail)
                  refine hK.out _ _ (fun _ => ?_) (fun hE => ?_)
                  · trivial
                  have hS := hE (by kernel_rfl)
                  clear hK K hE
                  try simp only [Act.put, List.setIfInBounds_toArray, List.set_cons_zero, List.set_cons_succ]
                  refine wpAnyT_ready (rs := [11]) (by kernel_rfl) rfl ?_
                  refine AllT.cons (o := { dst := some 84, op := Op.call { callee := Callee.builtin Builtin.append, args := #[Operand.tmp 80, Operand.tmp 83], argTypes := #[63, 63] }, type := 63, pos := "types.go:415", after := #[⟨7, .data⟩, ⟨10, .data⟩, ⟨7, .chain⟩], guard := none }) rfl (fun K hK => ?_) ?_
                  · (have hBs : B ≤ x4.heap.size := (by omega); refine step_append_sl _ rfl (.tmp 80) (.tmp 83) 63 rfl B 9 i0 _ 1 16 Tryd.underlying63 hi0 hz0 hz1 hz2 rfl (by decide) u (N.drop kk).length _ rfl hown dStr dStr.wide _ (N.take kk) _ kk cn rfl (HTk.out.keeps hq (fun _ _ h => h)) HM.out HBy.out hBs ?_; intro nv x5 news hnews hnown hgrow hat; have hk5 : Keeps (fun i => u.ownBlock = some i) x4 x5 := (Keeps.refl _ _).grown hgrow (fun i h _ => h); have hno13 : ¬ u.ownBlock = some g13 := (fun h => by have h9 := hul _ h; omega); have hno14 : ¬ u.ownBlock = some g14 := (fun h => by have h9 := hul _ h; omega); have hnoT : ∀ i, (wc.heap.size ≤ i ∧ i < x1.heap.size) → ¬ u.ownBlock = some i := (fun i hi h => by have h9 := hul _ h; omega); have hnoQ : ∀ i, i < wc.heap.size → u.ownBlock = some i → False := (fun i hi h => by have h9 := hul _ h; have := hq.size; omega); have hb13 := hb13.keeps hk5 (hno13); have hb14 := hb14.keeps hk5 (hno14); have hTa := hTa.keeps hk5 hnoT; have hs5 := hk5.size; have hq := hq.trans hk5 hnoQ; have hnw := moved hnews hnown HNs.out HKl.out)
                    refine hK.out _ _ (fun _ => ?_) (fun hE => ?_)
                    · trivial
                    have hS := hE (by kernel_rfl)
                    clear hK K hE
                    try simp only [Act.put, List.setIfInBounds_toArray, List.set_cons_zero, List.set_cons_succ]
                    refine wpAnyT_ready (rs := [12]) (by kernel_rfl) rfl ?_
                    refine AllT.cons (o := { dst := some 85, op := Op.call { callee := Callee.value (Operand.tmp 76), args := #[Operand.tmp 84], argTypes := #[63] }, type := 45, pos := "types.go:415", after := #[⟨3, .data⟩, ⟨11, .data⟩, ⟨11, .chain⟩], guard := none }) rfl (fun K hK => ?_) ?_
                    · (go_simp; go_at_call 35; refine (build2 (N.drop kk ++ N.take kk) _ rb HRB.out _ x5 hnw (by repeat (first | (with_reducible exact Keeps.refl _ _) | (with_reducible refine Keeps.drewN ?_ _) | with_reducible refine Keeps.drew ?_))).mono ?_; rintro e x6 ⟨Ab, cb, rfl, hTb, hk6⟩; have hb13 := hb13.keeps hk6 (fun h => h); have hb14 := hb14.keeps hk6 (fun h => h); have hTa := hTa.keeps hk6 (fun _ _ h => h); have hs6 := hk6.size; have hq := hq.trans hk6 (fun _ _ h => h); go_wp2_with fail)
                      refine hK.out _ _ (fun _ => ?_) (fun hE => ?_)
                      · trivial
                      have hS := hE (by kernel_rfl)
                      clear hK K hE
                      try simp only [Act.put, List.setIfInBounds_toArray, List.set_cons_zero, List.set_cons_succ]
                      refine wpAnyT_ready (rs := [15]) (by kernel_rfl) rfl ?_
                      refine AllT.cons (o := { dst := none, op := Op.store 45 (Operand.tmp 17) (Operand.tmp 75), type := 0, pos := "types.go:415", after := #[⟨13, .data⟩, ⟨2, .data⟩, ⟨12, .chain⟩, ⟨0, .phase⟩, ⟨1, .phase⟩, ⟨2, .phase⟩, ⟨3, .textOnly .lateStores⟩, ⟨4, .textOnly .lateStores⟩, ⟨5, .textOnly .lateStores⟩, ⟨6, .textOnly .lateStoresUnsure⟩, ⟨7, .textOnly .lateStoresUnsure⟩, ⟨8, .textOnly .lateStores⟩, ⟨9, .textOnly .lateStores⟩, ⟨10, .textOnly .lateStoresUnsure⟩, ⟨11, .textOnly .lateStoresUnsure⟩, ⟨12, .textOnly .lateStoresUnsure⟩, ⟨13, .phase⟩, ⟨14, .phase⟩], guard := none }) rfl (fun K hK => ?_) ?_
                      · (have c0 := hb13.cell (i := 0) rfl; have f0 := hb13.free 0; have c1 := hb13.cell (i := 1) rfl; have f1 := hb13.free 1; have c2 := hb13.cell (i := 2) rfl; have f2 := hb13.free 2; have c3 := hb13.cell (i := 3) rfl; have f3 := hb13.free 3; go_simp)
                        refine hK.out _ _ (fun _ => ?_) (fun hE => ?_)
                        · trivial
                        have hS := hE (by kernel_rfl)
                        clear hK K hE
                        try simp only [Act.put, List.setIfInBounds_toArray, List.set_cons_zero, List.set_cons_succ]
                        refine wpAnyT_ready (rs := [16]) (by kernel_rfl) rfl ?_
                        refine AllT.cons (o := { dst := none, op := Op.store 45 (Operand.tmp 18) (Operand.tmp 85), type := 0, pos := "types.go:415", after := #[⟨14, .data⟩, ⟨12, .data⟩, ⟨15, .chain⟩, ⟨0, .phase⟩, ⟨1, .phase⟩, ⟨2, .phase⟩, ⟨3, .phase⟩, ⟨4, .phase⟩, ⟨5, .phase⟩, ⟨6, .phase⟩, ⟨7, .phase⟩, ⟨8, .phase⟩, ⟨9, .phase⟩, ⟨10, .phase⟩, ⟨11, .phase⟩, ⟨12, .phase⟩, ⟨13, .phase⟩, ⟨14, .phase⟩, ⟨15, .phase⟩], guard := none }) rfl (fun K hK => ?_) ?_
                        · (obtain ⟨hbA, hkA⟩ := four hb13 (.int .i64 ra.kind) (.string ra.name) (.int .i64 ra.var) (.slice Aa ra.args.length ca); have hgg : g14 ≠ g13 := (by omega); have hb14A := hb14.keeps hkA hgg; clear c0 c1 c2 c3 f0 f1 f2 f3; have c0 := hb14A.cell (i := 0) rfl; have f0 := hb14A.free 0; have c1 := hb14A.cell (i := 1) rfl; have f1 := hb14A.free 1; have c2 := hb14A.cell (i := 2) rfl; have f2 := hb14A.free 2; have c3 := hb14A.cell (i := 3) rfl; have f3 := hb14A.free 3; go_simp)
                          refine hK.out _ _ (fun _ => ?_) (fun hE => ?_)
                          · trivial
                          have hS := hE (by kernel_rfl)
                          clear hK K hE
                          try simp only [Act.put, List.setIfInBounds_toArray, List.set_cons_zero, List.set_cons_succ]
                          refine wpAnyT_done (by kernel_rfl) ?_ _
                          refine NoPanic.normal ?_
                          obtain ⟨hbB, hkB⟩ := four hb14A (.int .i64 rb.kind) (.string rb.name) (.int .i64 rb.var) (.slice Ab rb.args.length cb)
                          have hgx : g13 < wc.heap.size → False := fun h => by have := hg13; omega
                          have hgy : g14 < wc.heap.size → False := fun h => by have := hg14; omega
                          have hTa := (hTa.keeps hkA (fun i hi h => by have h9 : i = g13 := h; omega)).keeps hkB (fun i hi h => by have h9 : i = g14 := h; omega)
                          have hTb := (hTb.keeps hkA (fun i hi h => by have h9 : i = g13 := h; omega)).keeps hkB (fun i hi h => by have h9 : i = g14 := h; omega)
                          have hq := (hq.trans hkA (fun i hi h => by have h9 : i = g13 := h; exact hgx (by omega))).trans hkB (fun i hi h => by have h9 : i = g14 := h; exact hgy (by omega))
                          have hsA := hkA.size
                          have hsB := hkB.size
                          go_wp2_with fail
                          go_meet
                          exact ⟨g13, g14, Aa, ca, Ab, cb, rfl, rfl, hbA.keeps hkB (fun h => hgg h.symm), hbB, hTa.mono (fun b hb => by omega), hTb.mono (fun b hb => by omega), hq⟩
                        exact AllT.nil
                      exact AllT.nil
                    exact AllT.nil
                  exact AllT.nil
                exact AllT.nil
              exact AllT.nil
            refine AllT.cons (o := { dst := some 18, op := Op.alloc 45, type := 0, pos := "types.go:415", after := #[], guard := none }) rfl (fun K hK => ?_) ?_
            · (go_simp; generalize hw14 : World.alloc _ _ = x2; have hb14 : Blk x2 x1.heap.size 45 [.int .i64 0, .string ⟨#[]⟩, .int .i64 0, .slice none 0 0] := (by rw [← hw14]; exact Blk.new _ _ _); have hk2 : Keeps (fun _ => False) x1 x2 := (by rw [← hw14]; repeat (first | (with_reducible exact Keeps.refl _ _) | (with_reducible refine Keeps.drewN ?_ _) | (with_reducible refine Keeps.drew ?_) | with_reducible refine Keeps.alloc ?_ _)); have hl14 := hb14.lt; have hTa := hTa.keeps hk2 (fun _ _ h => h); have hs2 := hk2.size; have hq := hq.trans hk2 (fun _ _ h => h); clear hw14; obtain ⟨g14, hg14⟩ : ∃ g, x1.heap.size = g := ⟨_, rfl⟩; rw [hg14] at hb14 hl14 ⊢)
              refine hK.out _ _ (fun _ => ?_) (fun hE => ?_)
              · trivial
              have hS := hE (by kernel_rfl)
              clear hK K hE
              try simp only [Act.put, List.setIfInBounds_toArray, List.set_cons_zero, List.set_cons_succ]
              refine wpAnyT_ready (rs := [7, 13]) (by kernel_rfl) rfl ?_
              refine AllT.cons (o := { dst := some 80, op := Op.call { callee := Callee.value (Operand.func 36), args := #[Operand.tmp 79], argTypes := #[63] }, type := 63, pos := "types.go:415", after := #[⟨6, .data⟩, ⟨2, .chain⟩], guard := none }) rfl (fun K hK => ?_) ?_
              · (go_simp; go_at_call 36; refine (HCl.out _ x2 (hq.trans (by repeat (first | (with_reducible exact Keeps.refl _ _) | (with_reducible refine Keeps.drewN ?_ _) | with_reducible refine Keeps.drew ?_)) (fun _ _ h => h)) (by repeat (first | (with_reducible exact Keeps.refl _ _) | (with_reducible refine Keeps.drewN ?_ _) | with_reducible refine Keeps.drew ?_))).mono ?_; rintro e x3 ⟨u, B, rfl, hBl, hBh, hown, hul, hk3⟩; have hb14 := hb14.keeps hk3 (fun h => h); have hTa := hTa.keeps hk3 (fun _ _ h => h); have hs3 := hk3.size; have hq := hq.trans hk3 (fun _ _ h => h); go_wp2_with fail)
                refine hK.out _ _ (fun _ => ?_) (fun hE => ?_)
                · trivial
                have hS := hE (by kernel_rfl)
                clear hK K hE
                try simp only [Act.put, List.setIfInBounds_toArray, List.set_cons_zero, List.set_cons_succ]
                refine wpAnyT_ready (rs := [11, 13]) (by kernel_rfl) rfl ?_
                refine AllT.cons (o := { dst := some 84, op := Op.call { callee := Callee.builtin Builtin.append, args := #[Operand.tmp 80, Operand.tmp 83], argTypes := #[63, 63] }, type := 63, pos := "types.go:415", after := #[⟨7, .data⟩, ⟨10, .data⟩, ⟨7, .chain⟩], guard := none }) rfl (fun K hK => ?_) ?_
                · (have hBs : B ≤ x3.heap.size := (by omega); refine step_append_sl _ rfl (.tmp 80) (.tmp 83) 63 rfl B 9 i0 _ 1 16 Tryd.underlying63 hi0 hz0 hz1 hz2 rfl (by decide) u (N.drop kk).length _ rfl hown dStr dStr.wide _ (N.take kk) _ kk cn rfl (HTk.out.keeps hq (fun _ _ h => h)) HM.out HBy.out hBs ?_; intro nv x4 news hnews hnown hgrow hat; have hk4 : Keeps (fun i => u.ownBlock = some i) x3 x4 := (Keeps.refl _ _).grown hgrow (fun i h _ => h); have hno14 : ¬ u.ownBlock = some g14 := (fun h => by have h9 := hul _ h; omega); have hnoT : ∀ i, (wc.heap.size ≤ i ∧ i < x1.heap.size) → ¬ u.ownBlock = some i := (fun i hi h => by have h9 := hul _ h; omega); have hnoQ : ∀ i, i < wc.heap.size → u.ownBlock = some i → False := (fun i hi h => by have h9 := hul _ h; have := hq.size; omega); have hb14 := hb14.keeps hk4 (hno14); have hTa := hTa.keeps hk4 hnoT; have hs4 := hk4.size; have hq := hq.trans hk4 hnoQ; have hnw := moved hnews hnown HNs.out HKl.out)
                  refine hK.out _ _ (fun _ => ?_) (fun hE => ?_)
                  · trivial
                  have hS := hE (by kernel_rfl)
                  clear hK K hE
                  try simp only [Act.put, List.setIfInBounds_toArray, List.set_cons_zero, List.set_cons_succ]
                  refine wpAnyT_ready (rs := [12, 13]) (by kernel_rfl) rfl ?_
                  refine AllT.cons (o := { dst := some 85, op := Op.call { callee := Callee.value (Operand.tmp 76), args := #[Operand.tmp 84], argTypes := #[63] }, type := 45, pos := "types.go:415", after := #[⟨3, .data⟩, ⟨11, .data⟩, ⟨11, .chain⟩], guard := none }) rfl (fun K hK => ?_) ?_
                  · (go_simp; go_at_call 35; refine (build2 (N.drop kk ++ N.take kk) _ rb HRB.out _ x4 hnw (by repeat (first | (with_reducible exact Keeps.refl _ _) | (with_reducible refine Keeps.drewN ?_ _) | with_reducible refine Keeps.drew ?_))).mono ?_; rintro e x5 ⟨Ab, cb, rfl, hTb, hk5⟩; have hb14 := hb14.keeps hk5 (fun h => h); have hTa := hTa.keeps hk5 (fun _ _ h => h); have hs5 := hk5.size; have hq := hq.trans hk5 (fun _ _ h => h); go_wp2_with fail)
                    refine hK.out _ _ (fun _ => ?_) (fun hE => ?_)
                    · trivial
                    have hS := hE (by kernel_rfl)
                    clear hK K hE
                    try simp only [Act.put, List.setIfInBounds_toArray, List.set_cons_zero, List.set_cons_succ]
                    refine wpAnyT_ready (rs := [13]) (by kernel_rfl) rfl ?_
                    refine AllT.cons (o := { dst := some 17, op := Op.alloc 45, type := 0, pos := "types.go:415", after := #[], guard := none }) rfl (fun K hK => ?_) ?_
                    · (go_simp; generalize hw13 : World.alloc _ _ = x6; have hb13 : Blk x6 x5.heap.size 45 [.int .i64 0, .string ⟨#[]⟩, .int .i64 0, .slice none 0 0] := (by rw [← hw13]; exact Blk.new _ _ _); have hk6 : Keeps (fun _ => False) x5 x6 := (by rw [← hw13]; repeat (first | (with_reducible exact Keeps.refl _ _) | (with_reducible refine Keeps.drewN ?_ _) | (with_reducible refine Keeps.drew ?_) | with_reducible refine Keeps.alloc ?_ _)); have hl13 := hb13.lt; have hb14 := hb14.keeps hk6 (fun h => h); have hTa := hTa.keeps hk6 (fun _ _ h => h); have hTb := hTb.keeps hk6 (fun _ _ h => h); have hs6 := hk6.size; have hq := hq.trans hk6 (fun _ _ h => h); clear hw13; obtain ⟨g13, hg13⟩ : ∃ g, x5.heap.size = g := ⟨_, rfl⟩; rw [hg13] at hb13 hl13 ⊢)
                      refine hK.out _ _ (fun _ => ?_) (fun hE => ?_)
                      · trivial
                      have hS := hE (by kernel_rfl)
                      clear hK K hE
                      try simp only [Act.put, List.setIfInBounds_toArray, List.set_cons_zero, List.set_cons_succ]
                      refine wpAnyT_ready (rs := [15]) (by kernel_rfl) rfl ?_
                      refine AllT.cons (o := { dst := none, op := Op.store 45 (Operand.tmp 17) (Operand.tmp 75), type := 0, pos := "types.go:415", after := #[⟨13, .data⟩, ⟨2, .data⟩, ⟨12, .chain⟩, ⟨0, .phase⟩, ⟨1, .phase⟩, ⟨2, .phase⟩, ⟨3, .textOnly .lateStores⟩, ⟨4, .textOnly .lateStores⟩, ⟨5, .textOnly .lateStores⟩, ⟨6, .textOnly .lateStoresUnsure⟩, ⟨7, .textOnly .lateStoresUnsure⟩, ⟨8, .textOnly .lateStores⟩, ⟨9, .textOnly .lateStores⟩, ⟨10, .textOnly .lateStoresUnsure⟩, ⟨11, .textOnly .lateStoresUnsure⟩, ⟨12, .textOnly .lateStoresUnsure⟩, ⟨13, .phase⟩, ⟨14, .phase⟩], guard := none }) rfl (fun K hK => ?_) ?_
                      · (have c0 := hb13.cell (i := 0) rfl; have f0 := hb13.free 0; have c1 := hb13.cell (i := 1) rfl; have f1 := hb13.free 1; have c2 := hb13.cell (i := 2) rfl; have f2 := hb13.free 2; have c3 := hb13.cell (i := 3) rfl; have f3 := hb13.free 3; go_simp)
                        refine hK.out _ _ (fun _ => ?_) (fun hE => ?_)
                        · trivial
                        have hS := hE (by kernel_rfl)
                        clear hK K hE
                        try simp only [Act.put, List.setIfInBounds_toArray, List.set_cons_zero, List.set_cons_succ]
                        refine wpAnyT_ready (rs := [16]) (by kernel_rfl) rfl ?_
                        refine AllT.cons (o := { dst := none, op := Op.store 45 (Operand.tmp 18) (Operand.tmp 85), type := 0, pos := "types.go:415", after := #[⟨14, .data⟩, ⟨12, .data⟩, ⟨15, .chain⟩, ⟨0, .phase⟩, ⟨1, .phase⟩, ⟨2, .phase⟩, ⟨3, .phase⟩, ⟨4, .phase⟩, ⟨5, .phase⟩, ⟨6, .phase⟩, ⟨7, .phase⟩, ⟨8, .phase⟩, ⟨9, .phase⟩, ⟨10, .phase⟩, ⟨11, .phase⟩, ⟨12, .phase⟩, ⟨13, .phase⟩, ⟨14, .phase⟩, ⟨15, .phase⟩], guard := none }) rfl (fun K hK => ?_) ?_
                        · (obtain ⟨hbA, hkA⟩ := four hb13 (.int .i64 ra.kind) (.string ra.name) (.int .i64 ra.var) (.slice Aa ra.args.length ca); have hgg : g14 ≠ g13 := (by omega); have hb14A := hb14.keeps hkA hgg; clear c0 c1 c2 c3 f0 f1 f2 f3; have c0 := hb14A.cell (i := 0) rfl; have f0 := hb14A.free 0; have c1 := hb14A.cell (i := 1) rfl; have f1 := hb14A.free 1; have c2 := hb14A.cell (i := 2) rfl; have f2 := hb14A.free 2; have c3 := hb14A.cell (i := 3) rfl; have f3 := hb14A.free 3; go_simp)
                          refine hK.out _ _ (fun _ => ?_) (fun hE => ?_)
                          · trivial
                          have hS := hE (by kernel_rfl)
                          clear hK K hE
                          try simp only [Act.put, List.setIfInBounds_toArray, List.set_cons_zero, List.set_cons_succ]
                          refine wpAnyT_done (by kernel_rfl) ?_ _
                          refine NoPanic.normal ?_
                          obtain ⟨hbB, hkB⟩ := four hb14A (.int .i64 rb.kind) (.string rb.name) (.int .i64 rb.var) (.slice Ab rb.args.length cb)
                          have hgx : g13 < wc.heap.size → False := fun h => by have := hg13; omega
                          have hgy : g14 < wc.heap.size → False := fun h => by have := hg14; omega
                          have hTa := (hTa.keeps hkA (fun i hi h => by have h9 : i = g13 := h; omega)).keeps hkB (fun i hi h => by have h9 : i = g14 := h; omega)
                          have hTb := (hTb.keeps hkA (fun i hi h => by have h9 : i = g13 := h; omega)).keeps hkB (fun i hi h => by have h9 : i = g14 := h; omega)
                          have hq := (hq.trans hkA (fun i hi h => by have h9 : i = g13 := h; exact hgx (by omega))).trans hkB (fun i hi h => by have h9 : i = g14 := h; exact hgy (by omega))
                          have hsA := hkA.size
                          have hsB := hkB.size
                          go_wp2_with fail
                          go_meet
                          exact ⟨g13, g14, Aa, ca, Ab, cb, rfl, rfl, hbA.keeps hkB (fun h => hgg h.symm), hbB, hTa.mono (fun b hb => by omega), hTb.mono (fun b hb => by omega), hq⟩
                        exact AllT.nil
                      exact AllT.nil
                    exact AllT.nil
                  refine AllT.cons (o := { dst := some 17, op := Op.alloc 45, type := 0, pos := "types.go:415", after := #[], guard := none }) rfl (fun K hK => ?_) ?_
                  · (go_simp; generalize hw13 : World.alloc _ _ = x5; have hb13 : Blk x5 x4.heap.size 45 [.int .i64 0, .string ⟨#[]⟩, .int .i64 0, .slice none 0 0] := (by rw [← hw13]; exact Blk.new _ _ _); have hk5 : Keeps (fun _ => False) x4 x5 := (by rw [← hw13]; repeat (first | (with_reducible exact Keeps.refl _ _) | (with_reducible refine Keeps.drewN ?_ _) | (with_reducible refine Keeps.drew ?_) | with_reducible refine Keeps.alloc ?_ _)); have hl13 := hb13.lt; have hb14 := hb14.keeps hk5 (fun h => h); have hTa := hTa.keeps hk5 (fun _ _ h => h); have hnw : Sl x5 (fun b => b < x5.heap.size) dStr _ _ := (hnw.keeps hk5 (fun _ _ h => h)).mono (fun b hb => Nat.lt_of_lt_of_le hb hk5.size); have hs5 := hk5.size; have hq := hq.trans hk5 (fun _ _ h => h); clear hw13; obtain ⟨g13, hg13⟩ : ∃ g, x4.heap.size = g := ⟨_, rfl⟩; rw [hg13] at hb13 hl13 ⊢)
                    refine hK.out _ _ (fun _ => ?_) (fun hE => ?_)
                    · trivial
                    have hS := hE (by kernel_rfl)
                    clear hK K hE
                    try simp only [Act.put, List.setIfInBounds_toArray, List.set_cons_zero, List.set_cons_succ]
                    refine wpAnyT_ready (rs := [12]) (by kernel_rfl) rfl ?_
                    refine AllT.cons (o := { dst := some 85, op := Op.call { callee := Callee.value (Operand.tmp 76), args := #[Operand.tmp 84], argTypes := #[63] }, type := 45, pos := "types.go:415", after := #[⟨3, .data⟩, ⟨11, .data⟩, ⟨11, .chain⟩], guard := none }) rfl (fun K hK => ?_) ?_
                    · (go_simp; go_at_call 35; refine (build2 (N.drop kk ++ N.take kk) _ rb HRB.out _ x5 hnw (by repeat (first | (with_reducible exact Keeps.refl _ _) | (with_reducible refine Keeps.drewN ?_ _) | with_reducible refine Keeps.drew ?_))).mono ?_; rintro e x6 ⟨Ab, cb, rfl, hTb, hk6⟩; have hb13 := hb13.keeps hk6 (fun h => h); have hb14 := hb14.keeps hk6 (fun h => h); have hTa := hTa.keeps hk6 (fun _ _ h => h); have hs6 := hk6.size; have hq := hq.trans hk6 (fun _ _ h => h); go_wp2_with fail)
                      refine hK.out _ _ (fun _ => ?_) (fun hE => ?_)
                      · trivial
                      have hS := hE (by kernel_rfl)
                      clear hK K hE
                      try simp only [Act.put, List.setIfInBounds_toArray, List.set_cons_zero, List.set_cons_succ]
                      refine wpAnyT_ready (rs := [15]) (by kernel_rfl) rfl ?_
                      refine AllT.cons (o := { dst := none, op := Op.store 45 (Operand.tmp 17) (Operand.tmp 75), type := 0, pos := "types.go:415", after := #[⟨13, .data⟩, ⟨2, .data⟩, ⟨12, .chain⟩, ⟨0, .phase⟩, ⟨1, .phase⟩, ⟨2, .phase⟩, ⟨3, .textOnly .lateStores⟩, ⟨4, .textOnly .lateStores⟩, ⟨5, .textOnly .lateStores⟩, ⟨6, .textOnly .lateStoresUnsure⟩, ⟨7, .textOnly .lateStoresUnsure⟩, ⟨8, .textOnly .lateStores⟩, ⟨9, .textOnly .lateStores⟩, ⟨10, .textOnly .lateStoresUnsure⟩, ⟨11, .textOnly .lateStoresUnsure⟩, ⟨12, .textOnly .lateStoresUnsure⟩, ⟨13, .phase⟩, ⟨14, .phase⟩], guard := none }) rfl (fun K hK => ?_) ?_
                      · (have c0 := hb13.cell (i := 0) rfl; have f0 := hb13.free 0; have c1 := hb13.cell (i := 1) rfl; have f1 := hb13.free 1; have c2 := hb13.cell (i := 2) rfl; have f2 := hb13.free 2; have c3 := hb13.cell (i := 3) rfl; have f3 := hb13.free 3; go_simp)
                        refine hK.out _ _ (fun _ => ?_) (fun hE => ?_)
                        · trivial
                        have hS := hE (by kernel_rfl)
                        clear hK K hE
                        try simp only [Act.put, List.setIfInBounds_toArray, List.set_cons_zero, List.set_cons_succ]
                        refine wpAnyT_ready (rs := [16]) (by kernel_rfl) rfl ?_
                        refine AllT.cons (o := { dst := none, op := Op.store 45 (Operand.tmp 18) (Operand.tmp 85), type := 0, pos := "types.go:415", after := #[⟨14, .data⟩, ⟨12, .data⟩, ⟨15, .chain⟩, ⟨0, .phase⟩, ⟨1, .phase⟩, ⟨2, .phase⟩, ⟨3, .phase⟩, ⟨4, .phase⟩, ⟨5, .phase⟩, ⟨6, .phase⟩, ⟨7, .phase⟩, ⟨8, .phase⟩, ⟨9, .phase⟩, ⟨10, .phase⟩, ⟨11, .phase⟩, ⟨12, .phase⟩, ⟨13, .phase⟩, ⟨14, .phase⟩, ⟨15, .phase⟩], guard := none }) rfl (fun K hK => ?_) ?_
                        · (obtain ⟨hbA, hkA⟩ := four hb13 (.int .i64 ra.kind) (.string ra.name) (.int .i64 ra.var) (.slice Aa ra.args.length ca); have hgg : g14 ≠ g13 := (by omega); have hb14A := hb14.keeps hkA hgg; clear c0 c1 c2 c3 f0 f1 f2 f3; have c0 := hb14A.cell (i := 0) rfl; have f0 := hb14A.free 0; have c1 := hb14A.cell (i := 1) rfl; have f1 := hb14A.free 1; have c2 := hb14A.cell (i := 2) rfl; have f2 := hb14A.free 2; have c3 := hb14A.cell (i := 3) rfl; have f3 := hb14A.free 3; go_simp)
                          refine hK.out _ _ (fun _ => ?_) (fun hE => ?_)
                          · trivial
                          have hS := hE (by kernel_rfl)
                          clear hK K hE
                          try simp only [Act.put, List.setIfInBounds_toArray, List.set_cons_zero, List.set_cons_succ]
                          refine wpAnyT_done (by kernel_rfl) ?_ _
                          refine NoPanic.normal ?_
                          obtain ⟨hbB, hkB⟩ := four hb14A (.int .i64 rb.kind) (.string rb.name) (.int .i64 rb.var) (.slice Ab rb.args.length cb)
                          have hgx : g13 < wc.heap.size → False := fun h => by have := hg13; omega
                          have hgy : g14 < wc.heap.size → False := fun h => by have := hg14; omega
                          have hTa := (hTa.keeps hkA (fun i hi h => by have h9 : i = g13 := h; omega)).keeps hkB (fun i hi h => by have h9 : i = g14 := h; omega)
                          have hTb := (hTb.keeps hkA (fun i hi h => by have h9 : i = g13 := h; omega)).keeps hkB (fun i hi h => by have h9 : i = g14 := h; omega)
                          have hq := (hq.trans hkA (fun i hi h => by have h9 : i = g13 := h; exact hgx (by omega))).trans hkB (fun i hi h => by have h9 : i = g14 := h; exact hgy (by omega))
                          have hsA := hkA.size
                          have hsB := hkB.size
                          go_wp2_with fail
                          go_meet
                          exact ⟨g13, g14, Aa, ca, Ab, cb, rfl, rfl, hbA.keeps hkB (fun h => hgg h.symm), hbB, hTa.mono (fun b hb => by omega), hTb.mono (fun b hb => by omega), hq⟩
                        exact AllT.nil
                      exact AllT.nil
                    exact AllT.nil
                  exact AllT.nil
                refine AllT.cons (o := { dst := some 17, op := Op.alloc 45, type := 0, pos := "types.go:415", after := #[], guard := none }) rfl (fun K hK => ?_) ?_
                · (go_simp; generalize hw13 : World.alloc _ _ = x4; have hb13 : Blk x4 x3.heap.size 45 [.int .i64 0, .string ⟨#[]⟩, .int .i64 0, .slice none 0 0] := (by rw [← hw13]; exact Blk.new _ _ _); have hk4 : Keeps (fun _ => False) x3 x4 := (by rw [← hw13]; repeat (first | (with_reducible exact Keeps.refl _ _) | (with_reducible refine Keeps.drewN ?_ _) | (with_reducible refine Keeps.drew ?_) | with_reducible refine Keeps.alloc ?_ _)); have hl13 := hb13.lt; have hb14 := hb14.keeps hk4 (fun h => h); have hTa := hTa.keeps hk4 (fun _ _ h => h); have hown := own_keeps hown hk4 (fun _ _ h => h); have hs4 := hk4.size; have hq := hq.trans hk4 (fun _ _ h => h); clear hw13; obtain ⟨g13, hg13⟩ : ∃ g, x3.heap.size = g := ⟨_, rfl⟩; rw [hg13] at hb13 hl13 ⊢)
                  refine hK.out _ _ (fun _ => ?_) (fun hE => ?_)
                  · trivial
                  have hS := hE (by kernel_rfl)
                  clear hK K hE
                  try simp only [Act.put, List.setIfInBounds_toArray, List.set_cons_zero, List.set_cons_succ]
                  refine wpAnyT_ready (rs := [11]) (by kernel_rfl) rfl ?_
                  refine AllT.cons (o := { dst := some 84, op := Op.call { callee := Callee.builtin Builtin.append, args := #[Operand.tmp 80, Operand.tmp 83], argTypes := #[63, 63] }, type := 63, pos := "types.go:415", after := #[⟨7, .data⟩, ⟨10, .data⟩, ⟨7, .chain⟩], guard := none }) rfl (fun K hK => ?_) ?_
                  · (have hBs : B ≤ x4.heap.size := (by omega); refine step_append_sl _ rfl (.tmp 80) (.tmp 83) 63 rfl B 9 i0 _ 1 16 Tryd.underlying63 hi0 hz0 hz1 hz2 rfl (by decide) u (N.drop kk).length _ rfl hown dStr dStr.wide _ (N.take kk) _ kk cn rfl (HTk.out.keeps hq (fun _ _ h => h)) HM.out HBy.out hBs ?_; intro nv x5 news hnews hnown hgrow hat; have hk5 : Keeps (fun i => u.ownBlock = some i) x4 x5 := (Keeps.refl _ _).grown hgrow (fun i h _ => h); have hno13 : ¬ u.ownBlock = some g13 := (fun h => by have h9 := hul _ h; omega); have hno14 : ¬ u.ownBlock = some g14 := (fun h => by have h9 := hul _ h; omega); have hnoT : ∀ i, (wc.heap.size ≤ i ∧ i < x1.heap.size) → ¬ u.ownBlock = some i := (fun i hi h => by have h9 := hul _ h; omega); have hnoQ : ∀ i, i < wc.heap.size → u.ownBlock = some i → False := (fun i hi h => by have h9 := hul _ h; have := hq.size; omega); have hb13 := hb13.keeps hk5 (hno13); have hb14 := hb14.keeps hk5 (hno14); have hTa := hTa.keeps hk5 hnoT; have hs5 := hk5.size; have hq := hq.trans hk5 hnoQ; have hnw := moved hnews hnown HNs.out HKl.out)
                    refine hK.out _ _ (fun _ => ?_) (fun hE => ?_)
                    · trivial
                    have hS := hE (by kernel_rfl)
                    clear hK K hE
                    try simp only [Act.put, List.setIfInBounds_toArray, List.set_cons_zero, List.set_cons_succ]
                    refine wpAnyT_ready (rs := [12]) (by kernel_rfl) rfl ?_
                    refine AllT.cons (o := { dst := some 85, op := Op.call { callee := Callee.value (Operand.tmp 76), args := #[Operand.tmp 84], argTypes := #[63] }, type := 45, pos := "types.go:415", after := #[⟨3, .data⟩, ⟨11, .data⟩, ⟨11, .chain⟩], guard := none }) rfl (fun K hK => ?_) ?_
                    · (go_simp; go_at_call 35; refine (build2 (N.drop kk ++ N.take kk) _ rb HRB.out _ x5 hnw (by repeat (first | (with_reducible exact Keeps.refl _ _) | (with_reducible refine Keeps.drewN ?_ _) | with_reducible refine Keeps.drew ?_))).mono ?_; rintro e x6 ⟨Ab, cb, rfl, hTb, hk6⟩; have hb13 := hb13.keeps hk6 (fun h => h); have hb14 := hb14.keeps hk6 (fun h => h); have hTa := hTa.keeps hk6 (fun _ _ h => h); have hs6 := hk6.size; have hq := hq.trans hk6 (fun _ _ h => h); go_wp2_with fail)
                      refine hK.out _ _ (fun _ => ?_) (fun hE => ?_)
                      · trivial
                      have hS := hE (by kernel_rfl)
                      clear hK K hE
                      try simp only [Act.put, List.setIfInBounds_toArray, List.set_cons_zero, List.set_cons_succ]
                      refine wpAnyT_ready (rs := [15]) (by kernel_rfl) rfl ?_
                      refine AllT.cons (o := { dst := none, op := Op.store 45 (Operand.tmp 17) (Operand.tmp 75), type := 0, pos := "types.go:415", after := #[⟨13, .data⟩, ⟨2, .data⟩, ⟨12, .chain⟩, ⟨0, .phase⟩, ⟨1, .phase⟩, ⟨2, .phase⟩, ⟨3, .textOnly .lateStores⟩, ⟨4, .textOnly .lateStores⟩, ⟨5, .textOnly .lateStores⟩, ⟨6, .textOnly .lateStoresUnsure⟩, ⟨7, .textOnly .lateStoresUnsure⟩, ⟨8, .textOnly .lateStores⟩, ⟨9, .textOnly .lateStores⟩, ⟨10, .textOnly .lateStoresUnsure⟩, ⟨11, .textOnly .lateStoresUnsure⟩, ⟨12, .textOnly .lateStoresUnsure⟩, ⟨13, .phase⟩, ⟨14, .phase⟩], guard := none }) rfl (fun K hK => ?_) ?_
                      · (have c0 := hb13.cell (i := 0) rfl; have f0 := hb13.free 0; have c1 := hb13.cell (i := 1) rfl; have f1 := hb13.free 1; have c2 := hb13.cell (i := 2) rfl; have f2 := hb13.free 2; have c3 := hb13.cell (i := 3) rfl; have f3 := hb13.free 3; go_simp)
                        refine hK.out _ _ (fun _ => ?_) (fun hE => ?_)
                        · trivial
                        have hS := hE (by kernel_rfl)
                        clear hK K hE
                        try simp only [Act.put, List.setIfInBounds_toArray, List.set_cons_zero, List.set_cons_succ]
                        refine wpAnyT_ready (rs := [16]) (by kernel_rfl) rfl ?_
                        refine AllT.cons (o := { dst := none, op := Op.store 45 (Operand.tmp 18) (Operand.tmp 85), type := 0, pos := "types.go:415", after := #[⟨14, .data⟩, ⟨12, .data⟩, ⟨15, .chain⟩, ⟨0, .phase⟩, ⟨1, .phase⟩, ⟨2, .phase⟩, ⟨3, .phase⟩, ⟨4, .phase⟩, ⟨5, .phase⟩, ⟨6, .phase⟩, ⟨7, .phase⟩, ⟨8, .phase⟩, ⟨9, .phase⟩, ⟨10, .phase⟩, ⟨11, .phase⟩, ⟨12, .phase⟩, ⟨13, .phase⟩, ⟨14, .phase⟩, ⟨15, .phase⟩], guard := none }) rfl (fun K hK => ?_) ?_
                        · (obtain ⟨hbA, hkA⟩ := four hb13 (.int .i64 ra.kind) (.string ra.name) (.int .i64 ra.var) (.slice Aa ra.args.length ca); have hgg : g14 ≠ g13 := (by omega); have hb14A := hb14.keeps hkA hgg; clear c0 c1 c2 c3 f0 f1 f2 f3; have c0 := hb14A.cell (i := 0) rfl; have f0 := hb14A.free 0; have c1 := hb14A.cell (i := 1) rfl; have f1 := hb14A.free 1; have c2 := hb14A.cell (i := 2) rfl; have f2 := hb14A.free 2; have c3 := hb14A.cell (i := 3) rfl; have f3 := hb14A.free 3; go_simp)
                          refine hK.out _ _ (fun _ => ?_) (fun hE => ?_)
                          · trivial
                          have hS := hE (by kernel_rfl)
                          clear hK K hE
                          try simp only [Act.put, List.setIfInBounds_toArray, List.set_cons_zero, List.set_cons_succ]
                          refine wpAnyT_done (by kernel_rfl) ?_ _
                          refine NoPanic.normal ?_
                          obtain ⟨hbB, hkB⟩ := four hb14A (.int .i64 rb.kind) (.string rb.name) (.int .i64 rb.var) (.slice Ab rb.args.length cb)
                          have hgx : g13 < wc.heap.size → False := fun h => by have := hg13; omega
                          have hgy : g14 < wc.heap.size → False := fun h => by have := hg14; omega
                          have hTa := (hTa.keeps hkA (fun i hi h => by have h9 : i = g13 := h; omega)).keeps hkB (fun i hi h => by have h9 : i = g14 := h; omega)
                          have hTb := (hTb.keeps hkA (fun i hi h => by have h9 : i = g13 := h; omega)).keeps hkB (fun i hi h => by have h9 : i = g14 := h; omega)
                          have hq := (hq.trans hkA (fun i hi h => by have h9 : i = g13 := h; exact hgx (by omega))).trans hkB (fun i hi h => by have h9 : i = g14 := h; exact hgy (by omega))
                          have hsA := hkA.size
                          have hsB := hkB.size
                          go_wp2_with fail
                          go_meet
                          exact ⟨g13, g14, Aa, ca, Ab, cb, rfl, rfl, hbA.keeps hkB (fun h => hgg h.symm), hbB, hTa.mono (fun b hb => by omega), hTb.mono (fun b hb => by omega), hq⟩
                        exact AllT.nil
                      exact AllT.nil
                    exact AllT.nil
                  exact AllT.nil
                exact AllT.nil
              refine AllT.cons (o := { dst := some 17, op := Op.alloc 45, type := 0, pos := "types.go:415", after := #[], guard := none }) rfl (fun K hK => ?_) ?_
              · (go_simp; generalize hw13 : World.alloc _ _ = x3; have hb13 : Blk x3 x2.heap.size 45 [.int .i64 0, .string ⟨#[]⟩, .int .i64 0, .slice none 0 0] := (by rw [← hw13]; exact Blk.new _ _ _); have hk3 : Keeps (fun _ => False) x2 x3 := (by rw [← hw13]; repeat (first | (with_reducible exact Keeps.refl _ _) | (with_reducible refine Keeps.drewN ?_ _) | (with_reducible refine Keeps.drew ?_) | with_reducible refine Keeps.alloc ?_ _)); have hl13 := hb13.lt; have hb14 := hb14.keeps hk3 (fun h => h); have hTa := hTa.keeps hk3 (fun _ _ h => h); have hs3 := hk3.size; have hq := hq.trans hk3 (fun _ _ h => h); clear hw13; obtain ⟨g13, hg13⟩ : ∃ g, x2.heap.size = g := ⟨_, rfl⟩; rw [hg13] at hb13 hl13 ⊢)
                refine hK.out _ _ (fun _ => ?_) (fun hE => ?_)
                · trivial
                have hS := hE (by kernel_rfl)
                clear hK K hE
                try simp only [Act.put, List.setIfInBounds_toArray, List.set_cons_zero, List.set_cons_succ]
                refine wpAnyT_ready (rs := [7]) (by kernel_rfl) rfl ?_
                refine AllT.cons (o := { dst := some 80, op := Op.call { callee := Callee.value (Operand.func 36), args := #[Operand.tmp 79], argTypes := #[63] }, type := 63, pos := "types.go:415", after := #[⟨6, .data⟩, ⟨2, .chain⟩], guard := none }) rfl (fun K hK => ?_) ?_
                · (go_simp; go_at_call 36; refine (HCl.out _ x3 (hq.trans (by repeat (first | (with_reducible exact Keeps.refl _ _) | (with_reducible refine Keeps.drewN ?_ _) | with_reducible refine Keeps.drew ?_)) (fun _ _ h => h)) (by repeat (first | (with_reducible exact Keeps.refl _ _) | (with_reducible refine Keeps.drewN ?_ _) | with_reducible refine Keeps.drew ?_))).mono ?_; rintro e x4 ⟨u, B, rfl, hBl, hBh, hown, hul, hk4⟩; have hb13 := hb13.keeps hk4 (fun h => h); have hb14 := hb14.keeps hk4 (fun h => h); have hTa := hTa.keeps hk4 (fun _ _ h => h); have hs4 := hk4.size; have hq := hq.trans hk4 (fun _ _ h => h); go_wp2_with fail)
                  refine hK.out _ _ (fun _ => ?_) (fun hE => ?_)
                  · trivial
                  have hS := hE (by kernel_rfl)
                  clear hK K hE
                  try simp only [Act.put, List.setIfInBounds_toArray, List.set_cons_zero, List.set_cons_succ]
                  refine wpAnyT_ready (rs := [11]) (by kernel_rfl) rfl ?_
                  refine AllT.cons (o := { dst := some 84, op := Op.call { callee := Callee.builtin Builtin.append, args := #[Operand.tmp 80, Operand.tmp 83], argTypes := #[63, 63] }, type := 63, pos := "types.go:415", after := #[⟨7, .data⟩, ⟨10, .data⟩, ⟨7, .chain⟩], guard := none }) rfl (fun K hK => ?_) ?_
                  · (have hBs : B ≤ x4.heap.size := (by omega); refine step_append_sl _ rfl (.tmp 80) (.tmp 83) 63 rfl B 9 i0 _ 1 16 Tryd.underlying63 hi0 hz0 hz1 hz2 rfl (by decide) u (N.drop kk).length _ rfl hown dStr dStr.wide _ (N.take kk) _ kk cn rfl (HTk.out.keeps hq (fun _ _ h => h)) HM.out HBy.out hBs ?_; intro nv x5 news hnews hnown hgrow hat; have hk5 : Keeps (fun i => u.ownBlock = some i) x4 x5 := (Keeps.refl _ _).grown hgrow (fun i h _ => h); have hno13 : ¬ u.ownBlock = some g13 := (fun h => by have h9 := hul _ h; omega); have hno14 : ¬ u.ownBlock = some g14 := (fun h => by have h9 := hul _ h; omega); have hnoT : ∀ i, (wc.heap.size ≤ i ∧ i < x1.heap.size) → ¬ u.ownBlock = some i := (fun i hi h => by have h9 := hul _ h; omega); have hnoQ : ∀ i, i < wc.heap.size → u.ownBlock = some i → False := (fun i hi h => by have h9 := hul _ h; have := hq.size; omega); have hb13 := hb13.keeps hk5 (hno13); have hb14 := hb14.keeps hk5 (hno14); have hTa := hTa.keeps hk5 hnoT; have hs5 := hk5.size; have hq := hq.trans hk5 hnoQ; have hnw := moved hnews hnown HNs.out HKl.out)
                    refine hK.out _ _ (fun _ => ?_) (fun hE => ?_)
                    · trivial
                    have hS := hE (by kernel_rfl)
                    clear hK K hE
                    try simp only [Act.put, List.setIfInBounds_toArray, List.set_cons_zero, List.set_cons_succ]
                    refine wpAnyT_ready (rs := [12]) (by kernel_rfl) rfl ?_
                    refine AllT.cons (o := { dst := some 85, op := Op.call { callee := Callee.value (Operand.tmp 76), args := #[Operand.tmp 84], argTypes := #[63] }, type := 45, pos := "types.go:415", after := #[⟨3, .data⟩, ⟨11, .data⟩, ⟨11, .chain⟩], guard := none }) rfl (fun K hK => ?_) ?_
                    · (go_simp; go_at_call 35; refine (build2 (N.drop kk ++ N.take kk) _ rb HRB.out _ x5 hnw (by repeat (first | (with_reducible exact Keeps.refl _ _) | (with_reducible refine Keeps.drewN ?_ _) | with_reducible refine Keeps.drew ?_))).mono ?_; rintro e x6 ⟨Ab, cb, rfl, hTb, hk6⟩; have hb13 := hb13.keeps hk6 (fun h => h); have hb14 := hb14.keeps hk6 (fun h => h); have hTa := hTa.keeps hk6 (fun _ _ h => h); have hs6 := hk6.size; have hq := hq.trans hk6 (fun _ _ h => h); go_wp2_with fail)
                      refine hK.out _ _ (fun _ => ?_) (fun hE => ?_)
                      · trivial
                      have hS := hE (by kernel_rfl)
                      clear hK K hE
                      try simp only [Act.put, List.setIfInBounds_toArray, List.set_cons_zero, List.set_cons_succ]
                      refine wpAnyT_ready (rs := [15]) (by kernel_rfl) rfl ?_
                      refine AllT.cons (o := { dst := none, op := Op.store 45 (Operand.tmp 17) (Operand.tmp 75), type := 0, pos := "types.go:415", after := #[⟨13, .data⟩, ⟨2, .data⟩, ⟨12, .chain⟩, ⟨0, .phase⟩, ⟨1, .phase⟩, ⟨2, .phase⟩, ⟨3, .textOnly .lateStores⟩, ⟨4, .textOnly .lateStores⟩, ⟨5, .textOnly .lateStores⟩, ⟨6, .textOnly .lateStoresUnsure⟩, ⟨7, .textOnly .lateStoresUnsure⟩, ⟨8, .textOnly .lateStores⟩, ⟨9, .textOnly .lateStores⟩, ⟨10, .textOnly .lateStoresUnsure⟩, ⟨11, .textOnly .lateStoresUnsure⟩, ⟨12, .textOnly .lateStoresUnsure⟩, ⟨13, .phase⟩, ⟨14, .phase⟩], guard := none }) rfl (fun K hK => ?_) ?_
                      · (have c0 := hb13.cell (i := 0) rfl; have f0 := hb13.free 0; have c1 := hb13.cell (i := 1) rfl; have f1 := hb13.free 1; have c2 := hb13.cell (i := 2) rfl; have f2 := hb13.free 2; have c3 := hb13.cell (i := 3) rfl; have f3 := hb13.free 3; go_simp)
                        refine hK.out _ _ (fun _ => ?_) (fun hE => ?_)
                        · trivial
                        have hS := hE (by kernel_rfl)
                        clear hK K hE
                        try simp only [Act.put, List.setIfInBounds_toArray, List.set_cons_zero, List.set_cons_succ]
                        refine wpAnyT_ready (rs := [16]) (by kernel_rfl) rfl ?_
                        refine AllT.cons (o := { dst := none, op := Op.store 45 (Operand.tmp 18) (Operand.tmp 85), type := 0, pos := "types.go:415", after := #[⟨14, .data⟩, ⟨12, .data⟩, ⟨15, .chain⟩, ⟨0, .phase⟩, ⟨1, .phase⟩, ⟨2, .phase⟩, ⟨3, .phase⟩, ⟨4, .phase⟩, ⟨5, .phase⟩, ⟨6, .phase⟩, ⟨7, .phase⟩, ⟨8, .phase⟩, ⟨9, .phase⟩, ⟨10, .phase⟩, ⟨11, .phase⟩, ⟨12, .phase⟩, ⟨13, .phase⟩, ⟨14, .phase⟩, ⟨15, .phase⟩], guard := none }) rfl (fun K hK => ?_) ?_
                        · (obtain ⟨hbA, hkA⟩ := four hb13 (.int .i64 ra.kind) (.string ra.name) (.int .i64 ra.var) (.slice Aa ra.args.length ca); have hgg : g14 ≠ g13 := (by omega); have hb14A := hb14.keeps hkA hgg; clear c0 c1 c2 c3 f0 f1 f2 f3; have c0 := hb14A.cell (i := 0) rfl; have f0 := hb14A.free 0; have c1 := hb14A.cell (i := 1) rfl; have f1 := hb14A.free 1; have c2 := hb14A.cell (i := 2) rfl; have f2 := hb14A.free 2; have c3 := hb14A.cell (i := 3) rfl; have f3 := hb14A.free 3; go_simp)
                          refine hK.out _ _ (fun _ => ?_) (fun hE => ?_)
                          · trivial
                          have hS := hE (by kernel_rfl)
                          clear hK K hE
                          try simp only [Act.put, List.setIfInBounds_toArray, List.set_cons_zero, List.set_cons_succ]
                          refine wpAnyT_done (by kernel_rfl) ?_ _
                          refine NoPanic.normal ?_
                          obtain ⟨hbB, hkB⟩ := four hb14A (.int .i64 rb.kind) (.string rb.name) (.int .i64 rb.var) (.slice Ab rb.args.length cb)
                          have hgx : g13 < wc.heap.size → False := fun h => by have := hg13; omega
                          have hgy : g14 < wc.heap.size → False := fun h => by have := hg14; omega
                          have hTa := (hTa.keeps hkA (fun i hi h => by have h9 : i = g13 := h; omega)).keeps hkB (fun i hi h => by have h9 : i = g14 := h; omega)
                          have hTb := (hTb.keeps hkA (fun i hi h => by have h9 : i = g13 := h; omega)).keeps hkB (fun i hi h => by have h9 : i = g14 := h; omega)
                          have hq := (hq.trans hkA (fun i hi h => by have h9 : i = g13 := h; exact hgx (by omega))).trans hkB (fun i hi h => by have h9 : i = g14 := h; exact hgy (by omega))
                          have hsA := hkA.size
                          have hsB := hkB.size
                          go_wp2_with fail
                          go_meet
                          exact ⟨g13, g14, Aa, ca, Ab, cb, rfl, rfl, hbA.keeps hkB (fun h => hgg h.symm), hbB, hTa.mono (fun b hb => by omega), hTb.mono (fun b hb => by omega), hq⟩
                        exact AllT.nil
                      exact AllT.nil
                    exact AllT.nil
                  exact AllT.nil
                exact AllT.nil
              exact AllT.nil
            exact AllT.nil
          refine AllT.cons (o := { dst := some 17, op := Op.alloc 45, type := 0, pos := "types.go:415", after := #[], guard := none }) rfl (fun K hK => ?_) ?_
          · (go_simp; generalize hw13 : World.alloc _ _ = x1; have hb13 : Blk x1 wc.heap.size 45 [.int .i64 0, .string ⟨#[]⟩, .int .i64 0, .slice none 0 0] := (by rw [← hw13]; exact Blk.new _ _ _); have hk1 : Keeps (fun _ => False) wc x1 := (by rw [← hw13]; repeat (first | (with_reducible exact Keeps.refl _ _) | (with_reducible refine Keeps.drewN ?_ _) | (with_reducible refine Keeps.drew ?_) | with_reducible refine Keeps.alloc ?_ _)); have hl13 := hb13.lt; have hs1 := hk1.size; have hq := hq.trans hk1 (fun _ _ h => h); clear hw13; obtain ⟨g13, hg13⟩ : ∃ g, wc.heap.size = g := ⟨_, rfl⟩; rw [hg13] at hb13 hl13 ⊢)
            refine hK.out _ _ (fun _ => ?_) (fun hE => ?_)
            · trivial
            have hS := hE (by kernel_rfl)
            clear hK K hE
            try simp only [Act.put, List.setIfInBounds_toArray, List.set_cons_zero, List.set_cons_succ]
            refine wpAnyT_ready (rs := [2, 14]) (by kernel_rfl) rfl ?_
            refine AllT.cons (o := { dst := some 75, op := Op.call { callee := Callee.value (Operand.tmp 73), args := #[Operand.tmp 74], argTypes := #[63] }, type := 45, pos := "types.go:415", after := #[⟨0, .data⟩, ⟨1, .data⟩], guard := none }) rfl (fun K hK => ?_) ?_
            · (go_simp; go_at_call 35; refine (build2 N _ ra HRA.out _ x1 ((HSl.out.keeps hq (fun _ _ h => h)).mono (fun b hb => Nat.lt_of_lt_of_le hb hq.size)) (by repeat (first | (with_reducible exact Keeps.refl _ _) | (with_reducible refine Keeps.drewN ?_ _) | with_reducible refine Keeps.drew ?_))).mono ?_; rintro e x2 ⟨Aa, ca, rfl, hTa, hk2⟩; have hb13 := hb13.keeps hk2 (fun h => h); have hs2 := hk2.size; have hq := hq.trans hk2 (fun _ _ h => h); go_wp2_with fail)
              refine hK.out _ _ (fun _ => ?_) (fun hE => ?_)
              · trivial
              have hS := hE (by kernel_rfl)
              clear hK K hE
              try simp only [Act.put, List.setIfInBounds_toArray, List.set_cons_zero, List.set_cons_succ]
              refine wpAnyT_ready (rs := [7, 14]) (by kernel_rfl) rfl ?_
              refine AllT.cons (o := { dst := some 80, op := Op.call { callee := Callee.value (Operand.func 36), args := #[Operand.tmp 79], argTypes := #[63] }, type := 63, pos := "types.go:415", after := #[⟨6, .data⟩, ⟨2, .chain⟩], guard := none }) rfl (fun K hK => ?_) ?_
              · (go_simp; go_at_call 36; refine (HCl.out _ x2 (hq.trans (by repeat (first | (with_reducible exact Keeps.refl _ _) | (with_reducible refine Keeps.drewN ?_ _) | with_reducible refine Keeps.drew ?_)) (fun _ _ h => h)) (by repeat (first | (with_reducible exact Keeps.refl _ _) | (with_reducible refine Keeps.drewN ?_ _) | with_reducible refine Keeps.drew ?_))).mono ?_; rintro e x3 ⟨u, B, rfl, hBl, hBh, hown, hul, hk3⟩; have hb13 := hb13.keeps hk3 (fun h => h); have hTa := hTa.keeps hk3 (fun _ _ h => h); have hs3 := hk3.size; have hq := hq.trans hk3 (fun _ _ h => h); go_wp2_with fail)
                refine hK.out _ _ (fun _ => ?_) (fun hE => ?_)
                · trivial
                have hS := hE (by kernel_rfl)
                clear hK K hE
                try simp only [Act.put, List.setIfInBounds_toArray, List.set_cons_zero, List.set_cons_succ]
                refine wpAnyT_ready (rs := [11, 14]) (by kernel_rfl) rfl ?_
                refine AllT.cons (o := { dst := some 84, op := Op.call { callee := Callee.builtin Builtin.append, args := #[Operand.tmp 80, Operand.tmp 83], argTypes := #[63, 63] }, type := 63, pos := "types.go:415", after := #[⟨7, .data⟩, ⟨10, .data⟩, ⟨7, .chain⟩], guard := none }) rfl (fun K hK => ?_) ?_
                · (have hBs : B ≤ x3.heap.size := (by omega); refine step_append_sl _ rfl (.tmp 80) (.tmp 83) 63 rfl B 9 i0 _ 1 16 Tryd.underlying63 hi0 hz0 hz1 hz2 rfl (by decide) u (N.drop kk).length _ rfl hown dStr dStr.wide _ (N.take kk) _ kk cn rfl (HTk.out.keeps hq (fun _ _ h => h)) HM.out HBy.out hBs ?_; intro nv x4 news hnews hnown hgrow hat; have hk4 : Keeps (fun i => u.ownBlock = some i) x3 x4 := (Keeps.refl _ _).grown hgrow (fun i h _ => h); have hno13 : ¬ u.ownBlock = some g13 := (fun h => by have h9 := hul _ h; omega); have hnoT : ∀ i, (x1.heap.size ≤ i ∧ i < x2.heap.size) → ¬ u.ownBlock = some i := (fun i hi h => by have h9 := hul _ h; omega); have hnoQ : ∀ i, i < wc.heap.size → u.ownBlock = some i → False := (fun i hi h => by have h9 := hul _ h; have := hq.size; omega); have hb13 := hb13.keeps hk4 (hno13); have hTa := hTa.keeps hk4 hnoT; have hs4 := hk4.size; have hq := hq.trans hk4 hnoQ; have hnw := moved hnews hnown HNs.out HKl.out)
                  refine hK.out _ _ (fun _ => ?_) (fun hE => ?_)
                  · trivial
                  have hS := hE (by kernel_rfl)
                  clear hK K hE
                  try simp only [Act.put, List.setIfInBounds_toArray, List.set_cons_zero, List.set_cons_succ]
                  refine wpAnyT_ready (rs := [12, 14]) (by kernel_rfl) rfl ?_
                  refine AllT.cons (o := { dst := some 85, op := Op.call { callee := Callee.value (Operand.tmp 76), args := #[Operand.tmp 84], argTypes := #[63] }, type := 45, pos := "types.go:415", after := #[⟨3, .data⟩, ⟨11, .data⟩, ⟨11, .chain⟩], guard := none }) rfl (fun K hK => ?_) ?_
                  · (go_simp; go_at_call 35; refine (build2 (N.drop kk ++ N.take kk) _ rb HRB.out _ x4 hnw (by repeat (first | (with_reducible exact Keeps.refl _ _) | (with_reducible refine Keeps.drewN ?_ _) | with_reducible refine Keeps.drew ?_))).mono ?_; rintro e x5 ⟨Ab, cb, rfl, hTb, hk5⟩; have hb13 := hb13.keeps hk5 (fun h => h); have hTa := hTa.keeps hk5 (fun _ _ h => h); have hs5 := hk5.size; have hq := hq.trans hk5 (fun _ _ h => h); go_wp2_with fail)
                    refine hK.out _ _ (fun _ => ?_) (fun hE => ?_)
                    · trivial
                    have hS := hE (by kernel_rfl)
                    clear hK K hE
                    try simp only [Act.put, List.setIfInBounds_toArray, List.set_cons_zero, List.set_cons_succ]
                    refine wpAnyT_ready (rs := [14]) (by kernel_rfl) rfl ?_
                    refine AllT.cons (o := { dst := some 18, op := Op.alloc 45, type := 0, pos := "types.go:415", after := #[], guard := none }) rfl (fun K hK => ?_) ?_
                    · (go_simp; generalize hw14 : World.alloc _ _ = x6; have hb14 : Blk x6 x5.heap.size 45 [.int .i64 0, .string ⟨#[]⟩, .int .i64 0, .slice none 0 0] := (by rw [← hw14]; exact Blk.new _ _ _); have hk6 : Keeps (fun _ => False) x5 x6 := (by rw [← hw14]; repeat (first | (with_reducible exact Keeps.refl _ _) | (with_reducible refine Keeps.drewN ?_ _) | (with_reducible refine Keeps.drew ?_) | with_reducible refine Keeps.alloc ?_ _)); have hl14 := hb14.lt; have hb13 := hb13.keeps hk6 (fun h => h); have hTa := hTa.keeps hk6 (fun _ _ h => h); have hTb := hTb.keeps hk6 (fun _ _ h => h); have hs6 := hk6.size; have hq := hq.trans hk6 (fun _ _ h => h); clear hw14; obtain ⟨g14, hg14⟩ : ∃ g, x5.heap.size = g := ⟨_, rfl⟩; rw [hg14] at hb14 hl14 ⊢)
                      refine hK.out _ _ (fun _ => ?_) (fun hE => ?_)
                      · trivial
                      have hS := hE (by kernel_rfl)
                      clear hK K hE
                      try simp only [Act.put, List.setIfInBounds_toArray, List.set_cons_zero, List.set_cons_succ]
                      refine wpAnyT_ready (rs := [15]) (by kernel_rfl) rfl ?_
                      refine AllT.cons (o := { dst := none, op := Op.store 45 (Operand.tmp 17) (Operand.tmp 75), type := 0, pos := "types.go:415", after := #[⟨13, .data⟩, ⟨2, .data⟩, ⟨12, .chain⟩, ⟨0, .phase⟩, ⟨1, .phase⟩, ⟨2, .phase⟩, ⟨3, .textOnly .lateStores⟩, ⟨4, .textOnly .lateStores⟩, ⟨5, .textOnly .lateStores⟩, ⟨6, .textOnly .lateStoresUnsure⟩, ⟨7, .textOnly .lateStoresUnsure⟩, ⟨8, .textOnly .lateStores⟩, ⟨9, .textOnly .lateStores⟩, ⟨10, .textOnly .lateStoresUnsure⟩, ⟨11, .textOnly .lateStoresUnsure⟩, ⟨12, .textOnly .lateStoresUnsure⟩, ⟨13, .phase⟩, ⟨14, .phase⟩], guard := none }) rfl (fun K hK => ?_) ?_
                      · (have c0 := hb13.cell (i := 0) rfl; have f0 := hb13.free 0; have c1 := hb13.cell (i := 1) rfl; have f1 := hb13.free 1; have c2 := hb13.cell (i := 2) rfl; have f2 := hb13.free 2; have c3 := hb13.cell (i := 3) rfl; have f3 := hb13.free 3; go_simp)
                        refine hK.out _ _ (fun _ => ?_) (fun hE => ?_)
                        · trivial
                        have hS := hE (by kernel_rfl)
                        clear hK K hE
                        try simp only [Act.put, List.setIfInBounds_toArray, List.set_cons_zero, List.set_cons_succ]
                        refine wpAnyT_ready (rs := [16]) (by kernel_rfl) rfl ?_
                        refine AllT.cons (o := { dst := none, op := Op.store 45 (Operand.tmp 18) (Operand.tmp 85), type := 0, pos := "types.go:415", after := #[⟨14, .data⟩, ⟨12, .data⟩, ⟨15, .chain⟩, ⟨0, .phase⟩, ⟨1, .phase⟩, ⟨2, .phase⟩, ⟨3, .phase⟩, ⟨4, .phase⟩, ⟨5, .phase⟩, ⟨6, .phase⟩, ⟨7, .phase⟩, ⟨8, .phase⟩, ⟨9, .phase⟩, ⟨10, .phase⟩, ⟨11, .phase⟩, ⟨12, .phase⟩, ⟨13, .phase⟩, ⟨14, .phase⟩, ⟨15, .phase⟩], guard := none }) rfl (fun K hK => ?_) ?_
                        · (obtain ⟨hbA, hkA⟩ := four hb13 (.int .i64 ra.kind) (.string ra.name) (.int .i64 ra.var) (.slice Aa ra.args.length ca); have hgg : g14 ≠ g13 := (by omega); have hb14A := hb14.keeps hkA hgg; clear c0 c1 c2 c3 f0 f1 f2 f3; have c0 := hb14A.cell (i := 0) rfl; have f0 := hb14A.free 0; have c1 := hb14A.cell (i := 1) rfl; have f1 := hb14A.free 1; have c2 := hb14A.cell (i := 2) rfl; have f2 := hb14A.free 2; have c3 := hb14A.cell (i := 3) rfl; have f3 := hb14A.free 3; go_simp)
                          refine hK.out _ _ (fun _ => ?_) (fun hE => ?_)
                          · trivial
                          have hS := hE (by kernel_rfl)
                          clear hK K hE
                          try simp only [Act.put, List.setIfInBounds_toArray, List.set_cons_zero, List.set_cons_succ]
                          refine wpAnyT_done (by kernel_rfl) ?_ _
                          refine NoPanic.normal ?_
                          obtain ⟨hbB, hkB⟩ := four hb14A (.int .i64 rb.kind) (.string rb.name) (.int .i64 rb.var) (.slice Ab rb.args.length cb)
                          have hgx : g13 < wc.heap.size → False := fun h => by have := hg13; omega
                          have hgy : g14 < wc.heap.size → False := fun h => by have := hg14; omega
                          have hTa := (hTa.keeps hkA (fun i hi h => by have h9 : i = g13 := h; omega)).keeps hkB (fun i hi h => by have h9 : i = g14 := h; omega)
                          have hTb := (hTb.keeps hkA (fun i hi h => by have h9 : i = g13 := h; omega)).keeps hkB (fun i hi h => by have h9 : i = g14 := h; omega)
                          have hq := (hq.trans hkA (fun i hi h => by have h9 : i = g13 := h; exact hgx (by omega))).trans hkB (fun i hi h => by have h9 : i = g14 := h; exact hgy (by omega))
                          have hsA := hkA.size
                          have hsB := hkB.size
                          go_wp2_with fail
                          go_meet
                          exact ⟨g13, g14, Aa, ca, Ab, cb, rfl, rfl, hbA.keeps hkB (fun h => hgg h.symm), hbB, hTa.mono (fun b hb => by omega), hTb.mono (fun b hb => by omega), hq⟩
                        exact AllT.nil
                      exact AllT.nil
                    exact AllT.nil
                  refine AllT.cons (o := { dst := some 18, op := Op.alloc 45, type := 0, pos := "types.go:415", after := #[], guard := none }) rfl (fun K hK => ?_) ?_
                  · (go_simp; generalize hw14 : World.alloc _ _ = x5; have hb14 : Blk x5 x4.heap.size 45 [.int .i64 0, .string ⟨#[]⟩, .int .i64 0, .slice none 0 0] := (by rw [← hw14]; exact Blk.new _ _ _); have hk5 : Keeps (fun _ => False) x4 x5 := (by rw [← hw14]; repeat (first | (with_reducible exact Keeps.refl _ _) | (with_reducible refine Keeps.drewN ?_ _) | (with_reducible refine Keeps.drew ?_) | with_reducible refine Keeps.alloc ?_ _)); have hl14 := hb14.lt; have hb13 := hb13.keeps hk5 (fun h => h); have hTa := hTa.keeps hk5 (fun _ _ h => h); have hnw : Sl x5 (fun b => b < x5.heap.size) dStr _ _ := (hnw.keeps hk5 (fun _ _ h => h)).mono (fun b hb => Nat.lt_of_lt_of_le hb hk5.size); have hs5 := hk5.size; have hq := hq.trans hk5 (fun _ _ h => h); clear hw14; obtain ⟨g14, hg14⟩ : ∃ g, x4.heap.size = g := ⟨_, rfl⟩; rw [hg14] at hb14 hl14 ⊢)
                    refine hK.out _ _ (fun _ => ?_) (fun hE => ?_)
                    · trivial
                    have hS := hE (by kernel_rfl)
                    clear hK K hE
                    try simp only [Act.put, List.setIfInBounds_toArray, List.set_cons_zero, List.set_cons_succ]
                    refine wpAnyT_ready (rs := [12]) (by kernel_rfl) rfl ?_
                    refine AllT.cons (o := { dst := some 85, op := Op.call { callee := Callee.value (Operand.tmp 76), args := #[Operand.tmp 84], argTypes := #[63] }, type := 45, pos := "types.go:415", after := #[⟨3, .data⟩, ⟨11, .data⟩, ⟨11, .chain⟩], guard := none }) rfl (fun K hK => ?_) ?_
                    · (go_simp; go_at_call 35; refine (build2 (N.drop kk ++ N.take kk) _ rb HRB.out _ x5 hnw (by repeat (first | (with_reducible exact Keeps.refl _ _) | (with_reducible refine Keeps.drewN ?_ _) | with_reducible refine Keeps.drew ?_))).mono ?_; rintro e x6 ⟨Ab, cb, rfl, hTb, hk6⟩; have hb13 := hb13.keeps hk6 (fun h => h); have hb14 := hb14.keeps hk6 (fun h => h); have hTa := hTa.keeps hk6 (fun _ _ h => h); have hs6 := hk6.size; have hq := hq.trans hk6 (fun _ _ h => h); go_wp2_with fail)
                      refine hK.out _ _ (fun _ => ?_) (fun hE => ?_)
                      · trivial
                      have hS := hE (by kernel_rfl)
                      clear hK K hE
                      try simp only [Act.put, List.setIfInBounds_toArray, List.set_cons_zero, List.set_cons_succ]
                      refine wpAnyT_ready (rs := [15]) (by kernel_rfl) rfl ?_
                      refine AllT.cons (o := { dst := none, op := Op.store 45 (Operand.tmp 17) (Operand.tmp 75), type := 0, pos := "types.go:415", after := #[⟨13, .data⟩, ⟨2, .data⟩, ⟨12, .chain⟩, ⟨0, .phase⟩, ⟨1, .phase⟩, ⟨2, .phase⟩, ⟨3, .textOnly .lateStores⟩, ⟨4, .textOnly .lateStores⟩, ⟨5, .textOnly .lateStores⟩, ⟨6, .textOnly .lateStoresUnsure⟩, ⟨7, .textOnly .lateStoresUnsure⟩, ⟨8, .textOnly .lateStores⟩, ⟨9, .textOnly .lateStores⟩, ⟨10, .textOnly .lateStoresUnsure⟩, ⟨11, .textOnly .lateStoresUnsure⟩, ⟨12, .textOnly .lateStoresUnsure⟩, ⟨13, .phase⟩, ⟨14, .phase⟩], guard := none }) rfl (fun K hK => ?_) ?_
                      · (have c0 := hb13.cell (i := 0) rfl; have f0 := hb13.free 0; have c1 := hb13.cell (i := 1) rfl; have f1 := hb13.free 1; have c2 := hb13.cell (i := 2) rfl; have f2 := hb13.free 2; have c3 := hb13.cell (i := 3) rfl; have f3 := hb13.free 3; go_simp)
                        refine hK.out _ _ (fun _ => ?_) (fun hE => ?_)
                        · trivial
                        have hS := hE (by kernel_rfl)
                        clear hK K hE
                        try simp only [Act.put, List.setIfInBounds_toArray, List.set_cons_zero, List.set_cons_succ]
                        refine wpAnyT_ready (rs := [16]) (by kernel_rfl) rfl ?_
                        refine AllT.cons (o := { dst := none, op := Op.store 45 (Operand.tmp 18) (Operand.tmp 85), type := 0, pos := "types.go:415", after := #[⟨14, .data⟩, ⟨12, .data⟩, ⟨15, .chain⟩, ⟨0, .phase⟩, ⟨1, .phase⟩, ⟨2, .phase⟩, ⟨3, .phase⟩, ⟨4, .phase⟩, ⟨5, .phase⟩, ⟨6, .phase⟩, ⟨7, .phase⟩, ⟨8, .phase⟩, ⟨9, .phase⟩, ⟨10, .phase⟩, ⟨11, .phase⟩, ⟨12, .phase⟩, ⟨13, .phase⟩, ⟨14, .phase⟩, ⟨15, .phase⟩], guard := none }) rfl (fun K hK => ?_) ?_
                        · (obtain ⟨hbA, hkA⟩ := four hb13 (.int .i64 ra.kind) (.string ra.name) (.int .i64 ra.var) (.slice Aa ra.args.length ca); have hgg : g14 ≠ g13 := (by omega); have hb14A := hb14.keeps hkA hgg; clear c0 c1 c2 c3 f0 f1 f2 f3; have c0 := hb14A.cell (i := 0) rfl; have f0 := hb14A.free 0; have c1 := hb14A.cell (i := 1) rfl; have f1 := hb14A.free 1; have c2 := hb14A.cell (i := 2) rfl; have f2 := hb14A.free 2; have c3 := hb14A.cell (i := 3) rfl; have f3 := hb14A.free 3; go_simp)
                          refine hK.out _ _ (fun _ => ?_) (fun hE => ?_)
                          · trivial
                          have hS := hE (by kernel_rfl)
                          clear hK K hE
                          try simp only [Act.put, List.setIfInBounds_toArray, List.set_cons_zero, List.set_cons_succ]
                          refine wpAnyT_done (by kernel_rfl) ?_ _
                          refine NoPanic.normal ?_
                          obtain ⟨hbB, hkB⟩ := four hb14A (.int .i64 rb.kind) (.string rb.name) (.int .i64 rb.var) (.slice Ab rb.args.length cb)
                          have hgx : g13 < wc.heap.size → False := fun h => by have := hg13; omega
                          have hgy : g14 < wc.heap.size → False := fun h => by have := hg14; omega
                          have hTa := (hTa.keeps hkA (fun i hi h => by have h9 : i = g13 := h; omega)).keeps hkB (fun i hi h => by have h9 : i = g14 := h; omega)
                          have hTb := (hTb.keeps hkA (fun i hi h => by have h9 : i = g13 := h; omega)).keeps hkB (fun i hi h => by have h9 : i = g14 := h; omega)
                          have hq := (hq.trans hkA (fun i hi h => by have h9 : i = g13 := h; exact hgx (by omega))).trans hkB (fun i hi h => by have h9 : i = g14 := h; exact hgy (by omega))
                          have hsA := hkA.size
                          have hsB := hkB.size
                          go_wp2_with fail
                          go_meet
                          exact ⟨g13, g14, Aa, ca, Ab, cb, rfl, rfl, hbA.keeps hkB (fun h => hgg h.symm), hbB, hTa.mono (fun b hb => by omega), hTb.mono (fun b hb => by omega), hq⟩
                        exact AllT.nil
                      exact AllT.nil
                    exact AllT.nil
                  exact AllT.nil
                refine AllT.cons (o := { dst := some 18, op := Op.alloc 45, type := 0, pos := "types.go:415", after := #[], guard := none }) rfl (fun K hK => ?_) ?_
                · (go_simp; generalize hw14 : World.alloc _ _ = x4; have hb14 : Blk x4 x3.heap.size 45 [.int .i64 0, .string ⟨#[]⟩, .int .i64 0, .slice none 0 0] := (by rw [← hw14]; exact Blk.new _ _ _); have hk4 : Keeps (fun _ => False) x3 x4 := (by rw [← hw14]; repeat (first | (with_reducible exact Keeps.refl _ _) | (with_reducible refine Keeps.drewN ?_ _) | (with_reducible refine Keeps.drew ?_) | with_reducible refine Keeps.alloc ?_ _)); have hl14 := hb14.lt; have hb13 := hb13.keeps hk4 (fun h => h); have hTa := hTa.keeps hk4 (fun _ _ h => h); have hown := own_keeps hown hk4 (fun _ _ h => h); have hs4 := hk4.size; have hq := hq.trans hk4 (fun _ _ h => h); clear hw14; obtain ⟨g14, hg14⟩ : ∃ g, x3.heap.size = g := ⟨_, rfl⟩; rw [hg14] at hb14 hl14 ⊢)
                  refine hK.out _ _ (fun _ => ?_) (fun hE => ?_)
                  · trivial
                  have hS := hE (by kernel_rfl)
                  clear hK K hE
                  try simp only [Act.put, List.setIfInBounds_toArray, List.set_cons_zero, List.set_cons_succ]
                  refine wpAnyT_ready (rs := [11]) (by kernel_rfl) rfl ?_
                  refine AllT.cons (o := { dst := some 84, op := Op.call { callee := Callee.builtin Builtin.append, args := #[Operand.tmp 80, Operand.tmp 83], argTypes := #[63, 63] }, type := 63, pos := "types.go:415", after := #[⟨7, .data⟩, ⟨10, .data⟩, ⟨7, .chain⟩], guard := none }) rfl (fun K hK => ?_) ?_
                  · (have hBs : B ≤ x4.heap.size := (by omega); refine step_append_sl _ rfl (.tmp 80) (.tmp 83) 63 rfl B 9 i0 _ 1 16 Tryd.underlying63 hi0 hz0 hz1 hz2 rfl (by decide) u (N.drop kk).length _ rfl hown dStr dStr.wide _ (N.take kk) _ kk cn rfl (HTk.out.keeps hq (fun _ _ h => h)) HM.out HBy.out hBs ?_; intro nv x5 news hnews hnown hgrow hat; have hk5 : Keeps (fun i => u.ownBlock = some i) x4 x5 := (Keeps.refl _ _).grown hgrow (fun i h _ => h); have hno13 : ¬ u.ownBlock = some g13 := (fun h => by have h9 := hul _ h; omega); have hno14 : ¬ u.ownBlock = some g14 := (fun h => by have h9 := hul _ h; omega); have hnoT : ∀ i, (x1.heap.size ≤ i ∧ i < x2.heap.size) → ¬ u.ownBlock = some i := (fun i hi h => by have h9 := hul _ h; omega); have hnoQ : ∀ i, i < wc.heap.size → u.ownBlock = some i → False := (fun i hi h => by have h9 := hul _ h; have := hq.size; omega); have hb13 := hb13.keeps hk5 (hno13); have hb14 := hb14.keeps hk5 (hno14); have hTa := hTa.keeps hk5 hnoT; have hs5 := hk5.size; have hq := hq.trans hk5 hnoQ; have hnw := moved hnews hnown HNs.out HKl.out)
                    refine hK.out _ _ (fun _ => ?_) (fun hE => ?_)
                    · trivial
                    have hS := hE (by kernel_rfl)
                    clear hK K hE
                    try simp only [Act.put, List.setIfInBounds_toArray, List.set_cons_zero, List.set_cons_succ]
                    refine wpAnyT_ready (rs := [12]) (by kernel_rfl) rfl ?_
                    refine AllT.cons (o := { dst := some 85, op := Op.call { callee := Callee.value (Operand.tmp 76), args := #[Operand.tmp 84], argTypes := #[63] }, type := 45, pos := "types.go:415", after := #[⟨3, .data⟩, ⟨11, .data⟩, ⟨11, .chain⟩], guard := none }) rfl (fun K hK => ?_) ?_
                    · (go_simp; go_at_call 35; refine (build2 (N.drop kk ++ N.take kk) _ rb HRB.out _ x5 hnw (by repeat (first | (with_reducible exact Keeps.refl _ _) | (with_reducible refine Keeps.drewN ?_ _) | with_reducible refine Keeps.drew ?_))).mono ?_; rintro e x6 ⟨Ab, cb, rfl, hTb, hk6⟩; have hb13 := hb13.keeps hk6 (fun h => h); have hb14 := hb14.keeps hk6 (fun h => h); have hTa := hTa.keeps hk6 (fun _ _ h => h); have hs6 := hk6.size; have hq := hq.trans hk6 (fun _ _ h => h); go_wp2_with fail)
                      refine hK.out _ _ (fun _ => ?_) (fun hE => ?_)
                      · trivial
                      have hS := hE (by kernel_rfl)
                      clear hK K hE
                      try simp only [Act.put, List.setIfInBounds_toArray, List.set_cons_zero, List.set_cons_succ]
                      refine wpAnyT_ready (rs := [15]) (by kernel_rfl) rfl ?_
                      refine AllT.cons (o := { dst := none, op := Op.store 45 (Operand.tmp 17) (Operand.tmp 75), type := 0, pos := "types.go:415", after := #[⟨13, .data⟩, ⟨2, .data⟩, ⟨12, .chain⟩, ⟨0, .phase⟩, ⟨1, .phase⟩, ⟨2, .phase⟩, ⟨3, .textOnly .lateStores⟩, ⟨4, .textOnly .lateStores⟩, ⟨5, .textOnly .lateStores⟩, ⟨6, .textOnly .lateStoresUnsure⟩, ⟨7, .textOnly .lateStoresUnsure⟩, ⟨8, .textOnly .lateStores⟩, ⟨9, .textOnly .lateStores⟩, ⟨10, .textOnly .lateStoresUnsure⟩, ⟨11, .textOnly .lateStoresUnsure⟩, ⟨12, .textOnly .lateStoresUnsure⟩, ⟨13, .phase⟩, ⟨14, .phase⟩], guard := none }) rfl (fun K hK => ?_) ?_
                      · (have c0 := hb13.cell (i := 0) rfl; have f0 := hb13.free 0; have c1 := hb13.cell (i := 1) rfl; have f1 := hb13.free 1; have c2 := hb13.cell (i := 2) rfl; have f2 := hb13.free 2; have c3 := hb13.cell (i := 3) rfl; have f3 := hb13.free 3; go_simp)
                        refine hK.out _ _ (fun _ => ?_) (fun hE => ?_)
                        · trivial
                        have hS := hE (by kernel_rfl)
                        clear hK K hE
                        try simp only [Act.put, List.setIfInBounds_toArray, List.set_cons_zero, List.set_cons_succ]
                        refine wpAnyT_ready (rs := [16]) (by kernel_rfl) rfl ?_
                        refine AllT.cons (o := { dst := none, op := Op.store 45 (Operand.tmp 18) (Operand.tmp 85), type := 0, pos := "types.go:415", after := #[⟨14, .data⟩, ⟨12, .data⟩, ⟨15, .chain⟩, ⟨0, .phase⟩, ⟨1, .phase⟩, ⟨2, .phase⟩, ⟨3, .phase⟩, ⟨4, .phase⟩, ⟨5, .phase⟩, ⟨6, .phase⟩, ⟨7, .phase⟩, ⟨8, .phase⟩, ⟨9, .phase⟩, ⟨10, .phase⟩, ⟨11, .phase⟩, ⟨12, .phase⟩, ⟨13, .phase⟩, ⟨14, .phase⟩, ⟨15, .phase⟩], guard := none }) rfl (fun K hK => ?_) ?_
                        · (obtain ⟨hbA, hkA⟩ := four hb13 (.int .i64 ra.kind) (.string ra.name) (.int .i64 ra.var) (.slice Aa ra.args.length ca); have hgg : g14 ≠ g13 := (by omega); have hb14A := hb14.keeps hkA hgg; clear c0 c1 c2 c3 f0 f1 f2 f3; have c0 := hb14A.cell (i := 0) rfl; have f0 := hb14A.free 0; have c1 := hb14A.cell (i := 1) rfl; have f1 := hb14A.free 1; have c2 := hb14A.cell (i := 2) rfl; have f2 := hb14A.free 2; have c3 := hb14A.cell (i := 3) rfl; have f3 := hb14A.free 3; go_simp)
                          refine hK.out _ _ (fun _ => ?_) (fun hE => ?_)
                          · trivial
                          have hS := hE (by kernel_rfl)
                          clear hK K hE
                          try simp only [Act.put, List.setIfInBounds_toArray, List.set_cons_zero, List.set_cons_succ]
                          refine wpAnyT_done (by kernel_rfl) ?_ _
                          refine NoPanic.normal ?_
                          obtain ⟨hbB, hkB⟩ := four hb14A (.int .i64 rb.kind) (.string rb.name) (.int .i64 rb.var) (.slice Ab rb.args.length cb)
                          have hgx : g13 < wc.heap.size → False := fun h => by have := hg13; omega
                          have hgy : g14 < wc.heap.size → False := fun h => by have := hg14; omega
                          have hTa := (hTa.keeps hkA (fun i hi h => by have h9 : i = g13 := h; omega)).keeps hkB (fun i hi h => by have h9 : i = g14 := h; omega)
                          have hTb := (hTb.keeps hkA (fun i hi h => by have h9 : i = g13 := h; omega)).keeps hkB (fun i hi h => by have h9 : i = g14 := h; omega)
                          have hq := (hq.trans hkA (fun i hi h => by have h9 : i = g13 := h; exact hgx (by omega))).trans hkB (fun i hi h => by have h9 : i = g14 := h; exact hgy (by omega))
                          have hsA := hkA.size
                          have hsB := hkB.size
                          go_wp2_with fail
                          go_meet
                          exact ⟨g13, g14, Aa, ca, Ab, cb, rfl, rfl, hbA.keeps hkB (fun h => hgg h.symm), hbB, hTa.mono (fun b hb => by omega), hTb.mono (fun b hb => by omega), hq⟩
                        exact AllT.nil
                      exact AllT.nil
                    exact AllT.nil
                  exact AllT.nil
                exact AllT.nil
              refine AllT.cons (o := { dst := some 18, op := Op.alloc 45, type := 0, pos := "types.go:415", after := #[], guard := none }) rfl (fun K hK => ?_) ?_
              · (go_simp; generalize hw14 : World.alloc _ _ = x3; have hb14 : Blk x3 x2.heap.size 45 [.int .i64 0, .string ⟨#[]⟩, .int .i64 0, .slice none 0 0] := (by rw [← hw14]; exact Blk.new _ _ _); have hk3 : Keeps (fun _ => False) x2 x3 := (by rw [← hw14]; repeat (first | (with_reducible exact Keeps.refl _ _) | (with_reducible refine Keeps.drewN ?_ _) | (with_reducible refine Keeps.drew ?_) | with_reducible refine Keeps.alloc ?_ _)); have hl14 := hb14.lt; have hb13 := hb13.keeps hk3 (fun h => h); have hTa := hTa.keeps hk3 (fun _ _ h => h); have hs3 := hk3.size; have hq := hq.trans hk3 (fun _ _ h => h); clear hw14; obtain ⟨g14, hg14⟩ : ∃ g, x2.heap.size = g := ⟨_, rfl⟩; rw [hg14] at hb14 hl14 ⊢)
                refine hK.out _ _ (fun _ => ?_) (fun hE => ?_)
                · trivial
                have hS := hE (by kernel_rfl)
                clear hK K hE
                try simp only [Act.put, List.setIfInBounds_toArray, List.set_cons_zero, List.set_cons_succ]
                refine wpAnyT_ready (rs := [7]) (by kernel_rfl) rfl ?_
                refine AllT.cons (o := { dst := some 80, op := Op.call { callee := Callee.value (Operand.func 36), args := #[Operand.tmp 79], argTypes := #[63] }, type := 63, pos := "types.go:415", after := #[⟨6, .data⟩, ⟨2, .chain⟩], guard := none }) rfl (fun K hK => ?_) ?_
                · (go_simp; go_at_call 36; refine (HCl.out _ x3 (hq.trans (by repeat (first | (with_reducible exact Keeps.refl _ _) | (with_reducible refine Keeps.drewN ?_ _) | with_reducible refine Keeps.drew ?_)) (fun _ _ h => h)) (by repeat (first | (with_reducible exact Keeps.refl _ _) | (with_reducible refine Keeps.drewN ?_ _) | with_reducible refine Keeps.drew ?_))).mono ?_; rintro e x4 ⟨u, B, rfl, hBl, hBh, hown, hul, hk4⟩; have hb13 := hb13.keeps hk4 (fun h => h); have hb14 := hb14.keeps hk4 (fun h => h); have hTa := hTa.keeps hk4 (fun _ _ h => h); have hs4 := hk4.size; have hq := hq.trans hk4 (fun _ _ h => h); go_wp2_with fail)
                  refine hK.out _ _ (fun _ => ?_) (fun hE => ?_)
                  · trivial
                  have hS := hE (by kernel_rfl)
                  clear hK K hE
                  try simp only [Act.put, List.setIfInBounds_toArray, List.set_cons_zero, List.set_cons_succ]
                  refine wpAnyT_ready (rs := [11]) (by kernel_rfl) rfl ?_
                  refine AllT.cons (o := { dst := some 84, op := Op.call { callee := Callee.builtin Builtin.append, args := #[Operand.tmp 80, Operand.tmp 83], argTypes := #[63, 63] }, type := 63, pos := "types.go:415", after := #[⟨7, .data⟩, ⟨10, .data⟩, ⟨7, .chain⟩], guard := none }) rfl (fun K hK => ?_) ?_
                  · (have hBs : B ≤ x4.heap.size := (by omega); refine step_append_sl _ rfl (.tmp 80) (.tmp 83) 63 rfl B 9 i0 _ 1 16 Tryd.underlying63 hi0 hz0 hz1 hz2 rfl (by decide) u (N.drop kk).length _ rfl hown dStr dStr.wide _ (N.take kk) _ kk cn rfl (HTk.out.keeps hq (fun _ _ h => h)) HM.out HBy.out hBs ?_; intro nv x5 news hnews hnown hgrow hat; have hk5 : Keeps (fun i => u.ownBlock = some i) x4 x5 := (Keeps.refl _ _).grown hgrow (fun i h _ => h); have hno13 : ¬ u.ownBlock = some g13 := (fun h => by have h9 := hul _ h; omega); have hno14 : ¬ u.ownBlock = some g14 := (fun h => by have h9 := hul _ h; omega); have hnoT : ∀ i, (x1.heap.size ≤ i ∧ i < x2.heap.size) → ¬ u.ownBlock = some i := (fun i hi h => by have h9 := hul _ h; omega); have hnoQ : ∀ i, i < wc.heap.size → u.ownBlock = some i → False := (fun i hi h => by have h9 := hul _ h; have := hq.size; omega); have hb13 := hb13.keeps hk5 (hno13); have hb14 := hb14.keeps hk5 (hno14); have hTa := hTa.keeps hk5 hnoT; have hs5 := hk5.size; have hq := hq.trans hk5 hnoQ; have hnw := moved hnews hnown HNs.out HKl.out)
                    refine hK.out _ _ (fun _ => ?_) (fun hE => ?_)
                    · trivial
                    have hS := hE (by kernel_rfl)
                    clear hK K hE
                    try simp only [Act.put, List.setIfInBounds_toArray, List.set_cons_zero, List.set_cons_succ]
                    refine wpAnyT_ready (rs := [12]) (by kernel_rfl) rfl ?_
                    refine AllT.cons (o := { dst := some 85, op := Op.call { callee := Callee.value (Operand.tmp 76), args := #[Operand.tmp 84], argTypes := #[63] }, type := 45, pos := "types.go:415", after := #[⟨3, .data⟩, ⟨11, .data⟩, ⟨11, .chain⟩], guard := none }) rfl (fun K hK => ?_) ?_
                    · (go_simp; go_at_call 35; refine (build2 (N.drop kk ++ N.take kk) _ rb HRB.out _ x5 hnw (by repeat (first | (with_reducible exact Keeps.refl _ _) | (with_reducible refine Keeps.drewN ?_ _) | with_reducible refine Keeps.drew ?_))).mono ?_; rintro e x6 ⟨Ab, cb, rfl, hTb, hk6⟩; have hb13 := hb13.keeps hk6 (fun h => h); have hb14 := hb14.keeps hk6 (fun h => h); have hTa := hTa.keeps hk6 (fun _ _ h => h); have hs6 := hk6.size; have hq := hq.trans hk6 (fun _ _ h => h); go_wp2_with fail)
                      refine hK.out _ _ (fun _ => ?_) (fun hE => ?_)
                      · trivial
                      have hS := hE (by kernel_rfl)
                      clear hK K hE
                      try simp only [Act.put, List.setIfInBounds_toArray, List.set_cons_zero, List.set_cons_succ]
                      refine wpAnyT_ready (rs := [15]) (by kernel_rfl) rfl ?_
                      refine AllT.cons (o := { dst := none, op := Op.store 45 (Operand.tmp 17) (Operand.tmp 75), type := 0, pos := "types.go:415", after := #[⟨13, .data⟩, ⟨2, .data⟩, ⟨12, .chain⟩, ⟨0, .phase⟩, ⟨1, .phase⟩, ⟨2, .phase⟩, ⟨3, .textOnly .lateStores⟩, ⟨4, .textOnly .lateStores⟩, ⟨5, .textOnly .lateStores⟩, ⟨6, .textOnly .lateStoresUnsure⟩, ⟨7, .textOnly .lateStoresUnsure⟩, ⟨8, .textOnly .lateStores⟩, ⟨9, .textOnly .lateStores⟩, ⟨10, .textOnly .lateStoresUnsure⟩, ⟨11, .textOnly .lateStoresUnsure⟩, ⟨12, .textOnly .lateStoresUnsure⟩, ⟨13, .phase⟩, ⟨14, .phase⟩], guard := none }) rfl (fun K hK => ?_) ?_
                      · (have c0 := hb13.cell (i := 0) rfl; have f0 := hb13.free 0; have c1 := hb13.cell (i := 1) rfl; have f1 := hb13.free 1; have c2 := hb13.cell (i := 2) rfl; have f2 := hb13.free 2; have c3 := hb13.cell (i := 3) rfl; have f3 := hb13.free 3; go_simp)
                        refine hK.out _ _ (fun _ => ?_) (fun hE => ?_)
                        · trivial
                        have hS := hE (by kernel_rfl)
                        clear hK K hE
                        try simp only [Act.put, List.setIfInBounds_toArray, List.set_cons_zero, List.set_cons_succ]
                        refine wpAnyT_ready (rs := [16]) (by kernel_rfl) rfl ?_
                        refine AllT.cons (o := { dst := none, op := Op.store 45 (Operand.tmp 18) (Operand.tmp 85), type := 0, pos := "types.go:415", after := #[⟨14, .data⟩, ⟨12, .data⟩, ⟨15, .chain⟩, ⟨0, .phase⟩, ⟨1, .phase⟩, ⟨2, .phase⟩, ⟨3, .phase⟩, ⟨4, .phase⟩, ⟨5, .phase⟩, ⟨6, .phase⟩, ⟨7, .phase⟩, ⟨8, .phase⟩, ⟨9, .phase⟩, ⟨10, .phase⟩, ⟨11, .phase⟩, ⟨12, .phase⟩, ⟨13, .phase⟩, ⟨14, .phase⟩, ⟨15, .phase⟩], guard := none }) rfl (fun K hK => ?_) ?_
                        · (obtain ⟨hbA, hkA⟩ := four hb13 (.int .i64 ra.kind) (.string ra.name) (.int .i64 ra.var) (.slice Aa ra.args.length ca); have hgg : g14 ≠ g13 := (by omega); have hb14A := hb14.keeps hkA hgg; clear c0 c1 c2 c3 f0 f1 f2 f3; have c0 := hb14A.cell (i := 0) rfl; have f0 := hb14A.free 0; have c1 := hb14A.cell (i := 1) rfl; have f1 := hb14A.free 1; have c2 := hb14A.cell (i := 2) rfl; have f2 := hb14A.free 2; have c3 := hb14A.cell (i := 3) rfl; have f3 := hb14A.free 3; go_simp)
                          refine hK.out _ _ (fun _ => ?_) (fun hE => ?_)
                          · trivial
                          have hS := hE (by kernel_rfl)
                          clear hK K hE
                          try simp only [Act.put, List.setIfInBounds_toArray, List.set_cons_zero, List.set_cons_succ]
                          refine wpAnyT_done (by kernel_rfl) ?_ _
                          refine NoPanic.normal ?_
                          obtain ⟨hbB, hkB⟩ := four hb14A (.int .i64 rb.kind) (.string rb.name) (.int .i64 rb.var) (.slice Ab rb.args.length cb)
                          have hgx : g13 < wc.heap.size → False := fun h => by have := hg13; omega
                          have hgy : g14 < wc.heap.size → False := fun h => by have := hg14; omega
                          have hTa := (hTa.keeps hkA (fun i hi h => by have h9 : i = g13 := h; omega)).keeps hkB (fun i hi h => by have h9 : i = g14 := h; omega)
                          have hTb := (hTb.keeps hkA (fun i hi h => by have h9 : i = g13 := h; omega)).keeps hkB (fun i hi h => by have h9 : i = g14 := h; omega)
                          have hq := (hq.trans hkA (fun i hi h => by have h9 : i = g13 := h; exact hgx (by omega))).trans hkB (fun i hi h => by have h9 : i = g14 := h; exact hgy (by omega))
                          have hsA := hkA.size
                          have hsB := hkB.size
                          go_wp2_with fail
                          go_meet
                          exact ⟨g13, g14, Aa, ca, Ab, cb, rfl, rfl, hbA.keeps hkB (fun h => hgg h.symm), hbB, hTa.mono (fun b hb => by omega), hTb.mono (fun b hb => by omega), hq⟩
                        exact AllT.nil
                      exact AllT.nil
                    exact AllT.nil
                  exact AllT.nil
                exact AllT.nil
              exact AllT.nil
            refine AllT.cons (o := { dst := some 18, op := Op.alloc 45, type := 0, pos := "types.go:415", after := #[], guard := none }) rfl (fun K hK => ?_) ?_
            · (go_simp; generalize hw14 : World.alloc _ _ = x2; have hb14 : Blk x2 x1.heap.size 45 [.int .i64 0, .string ⟨#[]⟩, .int .i64 0, .slice none 0 0] := (by rw [← hw14]; exact Blk.new _ _ _); have hk2 : Keeps (fun _ => False) x1 x2 := (by rw [← hw14]; repeat (first | (with_reducible exact Keeps.refl _ _) | (with_reducible refine Keeps.drewN ?_ _) | (with_reducible refine Keeps.drew ?_) | with_reducible refine Keeps.alloc ?_ _)); have hl14 := hb14.lt; have hb13 := hb13.keeps hk2 (fun h => h); have hs2 := hk2.size; have hq := hq.trans hk2 (fun _ _ h => h); clear hw14; obtain ⟨g14, hg14⟩ : ∃ g, x1.heap.size = g := ⟨_, rfl⟩; rw [hg14] at hb14 hl14 ⊢)
              refine hK.out _ _ (fun _ => ?_) (fun hE => ?_)
              · trivial
              have hS := hE (by kernel_rfl)
              clear hK K hE
              try simp only [Act.put, List.setIfInBounds_toArray, List.set_cons_zero, List.set_cons_succ]
              refine wpAnyT_ready (rs := [2]) (by kernel_rfl) rfl ?_
              refine AllT.cons (o := { dst := some 75, op := Op.call { callee := Callee.value (Operand.tmp 73), args := #[Operand.tmp 74], argTypes := #[63] }, type := 45, pos := "types.go:415", after := #[⟨0, .data⟩, ⟨1, .data⟩], guard := none }) rfl (fun K hK => ?_) ?_
              · (go_simp; go_at_call 35; refine (build2 N _ ra HRA.out _ x2 ((HSl.out.keeps hq (fun _ _ h => h)).mono (fun b hb => Nat.lt_of_lt_of_le hb hq.size)) (by repeat (first | (with_reducible exact Keeps.refl _ _) | (with_reducible refine Keeps.drewN ?_ _) | with_reducible refine Keeps.drew ?_))).mono ?_; rintro e x3 ⟨Aa, ca, rfl, hTa, hk3⟩; have hb13 := hb13.keeps hk3 (fun h => h); have hb14 := hb14.keeps hk3 (fun h => h); have hs3 := hk3.size; have hq := hq.trans hk3 (fun _ _ h => h); go_wp2_with fail)
                refine hK.out _ _ (fun _ => ?_) (fun hE => ?_)
                · trivial
                have hS := hE (by kernel_rfl)
                clear hK K hE
                try simp only [Act.put, List.setIfInBounds_toArray, List.set_cons_zero, List.set_cons_succ]
                refine wpAnyT_ready (rs := [7]) (by kernel_rfl) rfl ?_
                refine AllT.cons (o := { dst := some 80, op := Op.call { callee := Callee.value (Operand.func 36), args := #[Operand.tmp 79], argTypes := #[63] }, type := 63, pos := "types.go:415", after := #[⟨6, .data⟩, ⟨2, .chain⟩], guard := none }) rfl (fun K hK => ?_) ?_
                · (go_simp; go_at_call 36; refine (HCl.out _ x3 (hq.trans (by repeat (first | (with_reducible exact Keeps.refl _ _) | (with_reducible refine Keeps.drewN ?_ _) | with_reducible refine Keeps.drew ?_)) (fun _ _ h => h)) (by repeat (first | (with_reducible exact Keeps.refl _ _) | (with_reducible refine Keeps.drewN ?_ _) | with_reducible refine Keeps.drew ?_))).mono ?_; rintro e x4 ⟨u, B, rfl, hBl, hBh, hown, hul, hk4⟩; have hb13 := hb13.keeps hk4 (fun h => h); have hb14 := hb14.keeps hk4 (fun h => h); have hTa := hTa.keeps hk4 (fun _ _ h => h); have hs4 := hk4.size; have hq := hq.trans hk4 (fun _ _ h => h); go_wp2_with fail)
                  refine hK.out _ _ (fun _ => ?_) (fun hE => ?_)
                  · trivial
                  have hS := hE (by kernel_rfl)
                  clear hK K hE
                  try simp only [Act.put, List.setIfInBounds_toArray, List.set_cons_zero, List.set_cons_succ]
                  refine wpAnyT_ready (rs := [11]) (by kernel_rfl) rfl ?_
                  refine AllT.cons (o := { dst := some 84, op := Op.call { callee := Callee.builtin Builtin.append, args := #[Operand.tmp 80, Operand.tmp 83], argTypes := #[63, 63] }, type := 63, pos := "types.go:415", after := #[⟨7, .data⟩, ⟨10, .data⟩, ⟨7, .chain⟩], guard := none }) rfl (fun K hK => ?_) ?_
                  · (have hBs : B ≤ x4.heap.size := (by omega); refine step_append_sl _ rfl (.tmp 80) (.tmp 83) 63 rfl B 9 i0 _ 1 16 Tryd.underlying63 hi0 hz0 hz1 hz2 rfl (by decide) u (N.drop kk).length _ rfl hown dStr dStr.wide _ (N.take kk) _ kk cn rfl (HTk.out.keeps hq (fun _ _ h => h)) HM.out HBy.out hBs ?_; intro nv x5 news hnews hnown hgrow hat; have hk5 : Keeps (fun i => u.ownBlock = some i) x4 x5 := (Keeps.refl _ _).grown hgrow (fun i h _ => h); have hno13 : ¬ u.ownBlock = some g13 := (fun h => by have h9 := hul _ h; omega); have hno14 : ¬ u.ownBlock = some g14 := (fun h => by have h9 := hul _ h; omega); have hnoT : ∀ i, (x2.heap.size ≤ i ∧ i < x3.heap.size) → ¬ u.ownBlock = some i := (fun i hi h => by have h9 := hul _ h; omega); have hnoQ : ∀ i, i < wc.heap.size → u.ownBlock = some i → False := (fun i hi h => by have h9 := hul _ h; have := hq.size; omega); have hb13 := hb13.keeps hk5 (hno13); have hb14 := hb14.keeps hk5 (hno14); have hTa := hTa.keeps hk5 hnoT; have hs5 := hk5.size; have hq := hq.trans hk5 hnoQ; have hnw := moved hnews hnown HNs.out HKl.out)
                    refine hK.out _ _ (fun _ => ?_) (fun hE => ?_)
                    · trivial
                    have hS := hE (by kernel_rfl)
                    clear hK K hE
                    try simp only [Act.put, List.setIfInBounds_toArray, List.set_cons_zero, List.set_cons_succ]
                    refine wpAnyT_ready (rs := [12]) (by kernel_rfl) rfl ?_
                    refine AllT.cons (o := { dst := some 85, op := Op.call { callee := Callee.value (Operand.tmp 76), args := #[Operand.tmp 84], argTypes := #[63] }, type := 45, pos := "types.go:415", after := #[⟨3, .data⟩, ⟨11, .data⟩, ⟨11, .chain⟩], guard := none }) rfl (fun K hK => ?_) ?_
                    · (go_simp; go_at_call 35; refine (build2 (N.drop kk ++ N.take kk) _ rb HRB.out _ x5 hnw (by repeat (first | (with_reducible exact Keeps.refl _ _) | (with_reducible refine Keeps.drewN ?_ _) | with_reducible refine Keeps.drew ?_))).mono ?_; rintro e x6 ⟨Ab, cb, rfl, hTb, hk6⟩; have hb13 := hb13.keeps hk6 (fun h => h); have hb14 := hb14.keeps hk6 (fun h => h); have hTa := hTa.keeps hk6 (fun _ _ h => h); have hs6 := hk6.size; have hq := hq.trans hk6 (fun _ _ h => h); go_wp2_with fail)
                      refine hK.out _ _ (fun _ => ?_) (fun hE => ?_)
                      · trivial
                      have hS := hE (by kernel_rfl)
                      clear hK K hE
                      try simp only [Act.put, List.setIfInBounds_toArray, List.set_cons_zero, List.set_cons_succ]
                      refine wpAnyT_ready (rs := [15]) (by kernel_rfl) rfl ?_
                      refine AllT.cons (o := { dst := none, op := Op.store 45 (Operand.tmp 17) (Operand.tmp 75), type := 0, pos := "types.go:415", after := #[⟨13, .data⟩, ⟨2, .data⟩, ⟨12, .chain⟩, ⟨0, .phase⟩, ⟨1, .phase⟩, ⟨2, .phase⟩, ⟨3, .textOnly .lateStores⟩, ⟨4, .textOnly .lateStores⟩, ⟨5, .textOnly .lateStores⟩, ⟨6, .textOnly .lateStoresUnsure⟩, ⟨7, .textOnly .lateStoresUnsure⟩, ⟨8, .textOnly .lateStores⟩, ⟨9, .textOnly .lateStores⟩, ⟨10, .textOnly .lateStoresUnsure⟩, ⟨11, .textOnly .lateStoresUnsure⟩, ⟨12, .textOnly .lateStoresUnsure⟩, ⟨13, .phase⟩, ⟨14, .phase⟩], guard := none }) rfl (fun K hK => ?_) ?_
                      · (have c0 := hb13.cell (i := 0) rfl; have f0 := hb13.free 0; have c1 := hb13.cell (i := 1) rfl; have f1 := hb13.free 1; have c2 := hb13.cell (i := 2) rfl; have f2 := hb13.free 2; have c3 := hb13.cell (i := 3) rfl; have f3 := hb13.free 3; go_simp)
                        refine hK.out _ _ (fun _ => ?_) (fun hE => ?_)
                        · trivial
                        have hS := hE (by kernel_rfl)
                        clear hK K hE
                        try simp only [Act.put, List.setIfInBounds_toArray, List.set_cons_zero, List.set_cons_succ]
                        refine wpAnyT_ready (rs := [16]) (by kernel_rfl) rfl ?_
                        refine AllT.cons (o := { dst := none, op := Op.store 45 (Operand.tmp 18) (Operand.tmp 85), type := 0, pos := "types.go:415", after := #[⟨14, .data⟩, ⟨12, .data⟩, ⟨15, .chain⟩, ⟨0, .phase⟩, ⟨1, .phase⟩, ⟨2, .phase⟩, ⟨3, .phase⟩, ⟨4, .phase⟩, ⟨5, .phase⟩, ⟨6, .phase⟩, ⟨7, .phase⟩, ⟨8, .phase⟩, ⟨9, .phase⟩, ⟨10, .phase⟩, ⟨11, .phase⟩, ⟨12, .phase⟩, ⟨13, .phase⟩, ⟨14, .phase⟩, ⟨15, .phase⟩], guard := none }) rfl (fun K hK => ?_) ?_
                        · (obtain ⟨hbA, hkA⟩ := four hb13 (.int .i64 ra.kind) (.string ra.name) (.int .i64 ra.var) (.slice Aa ra.args.length ca); have hgg : g14 ≠ g13 := (by omega); have hb14A := hb14.keeps hkA hgg; clear c0 c1 c2 c3 f0 f1 f2 f3; have c0 := hb14A.cell (i := 0) rfl; have f0 := hb14A.free 0; have c1 := hb14A.cell (i := 1) rfl; have f1 := hb14A.free 1; have c2 := hb14A.cell (i := 2) rfl; have f2 := hb14A.free 2; have c3 := hb14A.cell (i := 3) rfl; have f3 := hb14A.free 3; go_simp)
                          refine hK.out _ _ (fun _ => ?_) (fun hE => ?_)
                          · trivial
                          have hS := hE (by kernel_rfl)
                          clear hK K hE
                          try simp only [Act.put, List.setIfInBounds_toArray, List.set_cons_zero, List.set_cons_succ]
                          refine wpAnyT_done (by kernel_rfl) ?_ _
                          refine NoPanic.normal ?_
                          obtain ⟨hbB, hkB⟩ := four hb14A (.int .i64 rb.kind) (.string rb.name) (.int .i64 rb.var) (.slice Ab rb.args.length cb)
                          have hgx : g13 < wc.heap.size → False := fun h => by have := hg13; omega
                          have hgy : g14 < wc.heap.size → False := fun h => by have := hg14; omega
                          have hTa := (hTa.keeps hkA (fun i hi h => by have h9 : i = g13 := h; omega)).keeps hkB (fun i hi h => by have h9 : i = g14 := h; omega)
                          have hTb := (hTb.keeps hkA (fun i hi h => by have h9 : i = g13 := h; omega)).keeps hkB (fun i hi h => by have h9 : i = g14 := h; omega)
                          have hq := (hq.trans hkA (fun i hi h => by have h9 : i = g13 := h; exact hgx (by omega))).trans hkB (fun i hi h => by have h9 : i = g14 := h; exact hgy (by omega))
                          have hsA := hkA.size
                          have hsB := hkB.size
                          go_wp2_with fail
                          go_meet
                          exact ⟨g13, g14, Aa, ca, Ab, cb, rfl, rfl, hbA.keeps hkB (fun h => hgg h.symm), hbB, hTa.mono (fun b hb => by omega), hTb.mono (fun b hb => by omega), hq⟩
                        exact AllT.nil
                      exact AllT.nil
                    exact AllT.nil
                  exact AllT.nil
                exact AllT.nil
              exact AllT.nil
            exact AllT.nil
          refine AllT.cons (o := { dst := some 18, op := Op.alloc 45, type := 0, pos := "types.go:415", after := #[], guard := none }) rfl (fun K hK => ?_) ?_
          · (go_simp; generalize hw14 : World.alloc _ _ = x1; have hb14 : Blk x1 wc.heap.size 45 [.int .i64 0, .string ⟨#[]⟩, .int .i64 0, .slice none 0 0] := (by rw [← hw14]; exact Blk.new _ _ _); have hk1 : Keeps (fun _ => False) wc x1 := (by rw [← hw14]; repeat (first | (with_reducible exact Keeps.refl _ _) | (with_reducible refine Keeps.drewN ?_ _) | (with_reducible refine Keeps.drew ?_) | with_reducible refine Keeps.alloc ?_ _)); have hl14 := hb14.lt; have hs1 := hk1.size; have hq := hq.trans hk1 (fun _ _ h => h); clear hw14; obtain ⟨g14, hg14⟩ : ∃ g, wc.heap.size = g := ⟨_, rfl⟩; rw [hg14] at hb14 hl14 ⊢)
            refine hK.out _ _ (fun _ => ?_) (fun hE => ?_)
            · trivial
            have hS := hE (by kernel_rfl)
            clear hK K hE
            try simp only [Act.put, List.setIfInBounds_toArray, List.set_cons_zero, List.set_cons_succ]
            refine wpAnyT_ready (rs := [2, 13]) (by kernel_rfl) rfl ?_
            refine AllT.cons (o := { dst := some 75, op := Op.call { callee := Callee.value (Operand.tmp 73), args := #[Operand.tmp 74], argTypes := #[63] }, type := 45, pos := "types.go:415", after := #[⟨0, .data⟩, ⟨1, .data⟩], guard := none }) rfl (fun K hK => ?_) ?_
            · (go_simp; go_at_call 35; refine (build2 N _ ra HRA.out _ x1 ((HSl.out.keeps hq (fun _ _ h => h)).mono (fun b hb => Nat.lt_of_lt_of_le hb hq.size)) (by repeat (first | (with_reducible exact Keeps.refl _ _) | (with_reducible refine Keeps.drewN ?_ _) | with_reducible refine Keeps.drew ?_))).mono ?_; rintro e x2 ⟨Aa, ca, rfl, hTa, hk2⟩; have hb14 := hb14.keeps hk2 (fun h => h); have hs2 := hk2.size; have hq := hq.trans hk2 (fun _ _ h => h); go_wp2_with fail)
              refine hK.out _ _ (fun _ => ?_) (fun hE => ?_)
              · trivial
              have hS := hE (by kernel_rfl)
              clear hK K hE
              try simp only [Act.put, List.setIfInBounds_toArray, List.set_cons_zero, List.set_cons_succ]
              refine wpAnyT_ready (rs := [7, 13]) (by kernel_rfl) rfl ?_
              refine AllT.cons (o := { dst := some 80, op := Op.call { callee := Callee.value (Operand.func 36), args := #[Operand.tmp 79], argTypes := #[63] }, type := 63, pos := "types.go:415", after := #[⟨6, .data⟩, ⟨2, .chain⟩], guard := none }) rfl (fun K hK => ?_) ?_
              · (go_simp; go_at_call 36; refine (HCl.out _ x2 (hq.trans (by repeat (first | (with_reducible exact Keeps.refl _ _) | (with_reducible refine Keeps.drewN ?_ _) | with_reducible refine Keeps.drew ?_)) (fun _ _ h => h)) (by repeat (first | (with_reducible exact Keeps.refl _ _) | (with_reducible refine Keeps.drewN ?_ _) | with_reducible refine Keeps.drew ?_))).mono ?_; rintro e x3 ⟨u, B, rfl, hBl, hBh, hown, hul, hk3⟩; have hb14 := hb14.keeps hk3 (fun h => h); have hTa := hTa.keeps hk3 (fun _ _ h => h); have hs3 := hk3.size; have hq := hq.trans hk3 (fun _ _ h => h); go_wp2_with fail)
                refine hK.out _ _ (fun _ => ?_) (fun hE => ?_)
                · trivial
                have hS := hE (by kernel_rfl)
                clear hK K hE
                try simp only [Act.put, List.setIfInBounds_toArray, List.set_cons_zero, List.set_cons_succ]
                refine wpAnyT_ready (rs := [11, 13]) (by kernel_rfl) rfl ?_
                refine AllT.cons (o := { dst := some 84, op := Op.call { callee := Callee.builtin Builtin.append, args := #[Operand.tmp 80, Operand.tmp 83], argTypes := #[63, 63] }, type := 63, pos := "types.go:415", after := #[⟨7, .data⟩, ⟨10, .data⟩, ⟨7, .chain⟩], guard := none }) rfl (fun K hK => ?_) ?_
                · (have hBs : B ≤ x3.heap.size := (by omega); refine step_append_sl _ rfl (.tmp 80) (.tmp 83) 63 rfl B 9 i0 _ 1 16 Tryd.underlying63 hi0 hz0 hz1 hz2 rfl (by decide) u (N.drop kk).length _ rfl hown dStr dStr.wide _ (N.take kk) _ kk cn rfl (HTk.out.keeps hq (fun _ _ h => h)) HM.out HBy.out hBs ?_; intro nv x4 news hnews hnown hgrow hat; have hk4 : Keeps (fun i => u.ownBlock = some i) x3 x4 := (Keeps.refl _ _).grown hgrow (fun i h _ => h); have hno14 : ¬ u.ownBlock = some g14 := (fun h => by have h9 := hul _ h; omega); have hnoT : ∀ i, (x1.heap.size ≤ i ∧ i < x2.heap.size) → ¬ u.ownBlock = some i := (fun i hi h => by have h9 := hul _ h; omega); have hnoQ : ∀ i, i < wc.heap.size → u.ownBlock = some i → False := (fun i hi h => by have h9 := hul _ h; have := hq.size; omega); have hb14 := hb14.keeps hk4 (hno14); have hTa := hTa.keeps hk4 hnoT; have hs4 := hk4.size; have hq := hq.trans hk4 hnoQ; have hnw := moved hnews hnown HNs.out HKl.out)
                  refine hK.out _ _ (fun _ => ?_) (fun hE => ?_)
                  · trivial
                  have hS := hE (by kernel_rfl)
                  clear hK K hE
                  try simp only [Act.put, List.setIfInBounds_toArray, List.set_cons_zero, List.set_cons_succ]
                  refine wpAnyT_ready (rs := [12, 13]) (by kernel_rfl) rfl ?_
                  refine AllT.cons (o := { dst := some 85, op := Op.call { callee := Callee.value (Operand.tmp 76), args := #[Operand.tmp 84], argTypes := #[63] }, type := 45, pos := "types.go:415", after := #[⟨3, .data⟩, ⟨11, .data⟩, ⟨11, .chain⟩], guard := none }) rfl (fun K hK => ?_) ?_
                  · (go_simp; go_at_call 35; refine (build2 (N.drop kk ++ N.take kk) _ rb HRB.out _ x4 hnw (by repeat (first | (with_reducible exact Keeps.refl _ _) | (with_reducible refine Keeps.drewN ?_ _) | with_reducible refine Keeps.drew ?_))).mono ?_; rintro e x5 ⟨Ab, cb, rfl, hTb, hk5⟩; have hb14 := hb14.keeps hk5 (fun h => h); have hTa := hTa.keeps hk5 (fun _ _ h => h); have hs5 := hk5.size; have hq := hq.trans hk5 (fun _ _ h => h); go_wp2_with fail)
                    refine hK.out _ _ (fun _ => ?_) (fun hE => ?_)
                    · trivial
                    have hS := hE (by kernel_rfl)
                    clear hK K hE
                    try simp only [Act.put, List.setIfInBounds_toArray, List.set_cons_zero, List.set_cons_succ]
                    refine wpAnyT_ready (rs := [13]) (by kernel_rfl) rfl ?_
                    refine AllT.cons (o := { dst := some 17, op := Op.alloc 45, type := 0, pos := "types.go:415", after := #[], guard := none }) rfl (fun K hK => ?_) ?_
                    · (go_simp; generalize hw13 : World.alloc _ _ = x6; have hb13 : Blk x6 x5.heap.size 45 [.int .i64 0, .string ⟨#[]⟩, .int .i64 0, .slice none 0 0] := (by rw [← hw13]; exact Blk.new _ _ _); have hk6 : Keeps (fun _ => False) x5 x6 := (by rw [← hw13]; repeat (first | (with_reducible exact Keeps.refl _ _) | (with_reducible refine Keeps.drewN ?_ _) | (with_reducible refine Keeps.drew ?_) | with_reducible refine Keeps.alloc ?_ _)); have hl13 := hb13.lt; have hb14 := hb14.keeps hk6 (fun h => h); have hTa := hTa.keeps hk6 (fun _ _ h => h); have hTb := hTb.keeps hk6 (fun _ _ h => h); have hs6 := hk6.size; have hq := hq.trans hk6 (fun _ _ h => h); clear hw13; obtain ⟨g13, hg13⟩ : ∃ g, x5.heap.size = g := ⟨_, rfl⟩; rw [hg13] at hb13 hl13 ⊢)
                      refine hK.out _ _ (fun _ => ?_) (fun hE => ?_)
                      · trivial
                      have hS := hE (by kernel_rfl)
                      clear hK K hE
                      try simp only [Act.put, List.setIfInBounds_toArray, List.set_cons_zero, List.set_cons_succ]
                      refine wpAnyT_ready (rs := [15]) (by kernel_rfl) rfl ?_
                      refine AllT.cons (o := { dst := none, op := Op.store 45 (Operand.tmp 17) (Operand.tmp 75), type := 0, pos := "types.go:415", after := #[⟨13, .data⟩, ⟨2, .data⟩, ⟨12, .chain⟩, ⟨0, .phase⟩, ⟨1, .phase⟩, ⟨2, .phase⟩, ⟨3, .textOnly .lateStores⟩, ⟨4, .textOnly .lateStores⟩, ⟨5, .textOnly .lateStores⟩, ⟨6, .textOnly .lateStoresUnsure⟩, ⟨7, .textOnly .lateStoresUnsure⟩, ⟨8, .textOnly .lateStores⟩, ⟨9, .textOnly .lateStores⟩, ⟨10, .textOnly .lateStoresUnsure⟩, ⟨11, .textOnly .lateStoresUnsure⟩, ⟨12, .textOnly .lateStoresUnsure⟩, ⟨13, .phase⟩, ⟨14, .phase⟩], guard := none }) rfl (fun K hK => ?_) ?_
                      · (have c0 := hb13.cell (i := 0) rfl; have f0 := hb13.free 0; have c1 := hb13.cell (i := 1) rfl; have f1 := hb13.free 1; have c2 := hb13.cell (i := 2) rfl; have f2 := hb13.free 2; have c3 := hb13.cell (i := 3) rfl; have f3 := hb13.free 3; go_simp)
                        refine hK.out _ _ (fun _ => ?_) (fun hE => ?_)
                        · trivial
                        have hS := hE (by kernel_rfl)
                        clear hK K hE
                        try simp only [Act.put, List.setIfInBounds_toArray, List.set_cons_zero, List.set_cons_succ]
                        refine wpAnyT_ready (rs := [16]) (by kernel_rfl) rfl ?_
                        refine AllT.cons (o := { dst := none, op := Op.store 45 (Operand.tmp 18) (Operand.tmp 85), type := 0, pos := "types.go:415", after := #[⟨14, .data⟩, ⟨12, .data⟩, ⟨15, .chain⟩, ⟨0, .phase⟩, ⟨1, .phase⟩, ⟨2, .phase⟩, ⟨3, .phase⟩, ⟨4, .phase⟩, ⟨5, .phase⟩, ⟨6, .phase⟩, ⟨7, .phase⟩, ⟨8, .phase⟩, ⟨9, .phase⟩, ⟨10, .phase⟩, ⟨11, .phase⟩, ⟨12, .phase⟩, ⟨13, .phase⟩, ⟨14, .phase⟩, ⟨15, .phase⟩], guard := none }) rfl (fun K hK => ?_) ?_
                        · (obtain ⟨hbA, hkA⟩ := four hb13 (.int .i64 ra.kind) (.string ra.name) (.int .i64 ra.var) (.slice Aa ra.args.length ca); have hgg : g14 ≠ g13 := (by omega); have hb14A := hb14.keeps hkA hgg; clear c0 c1 c2 c3 f0 f1 f2 f3; have c0 := hb14A.cell (i := 0) rfl; have f0 := hb14A.free 0; have c1 := hb14A.cell (i := 1) rfl; have f1 := hb14A.free 1; have c2 := hb14A.cell (i := 2) rfl; have f2 := hb14A.free 2; have c3 := hb14A.cell (i := 3) rfl; have f3 := hb14A.free 3; go_simp)
                          refine hK.out _ _ (fun _ => ?_) (fun hE => ?_)
                          · trivial
                          have hS := hE (by kernel_rfl)
                          clear hK K hE
                          try simp only [Act.put, List.setIfInBounds_toArray, List.set_cons_zero, List.set_cons_succ]
                          refine wpAnyT_done (by kernel_rfl) ?_ _
                          refine NoPanic.normal ?_
                          obtain ⟨hbB, hkB⟩ := four hb14A (.int .i64 rb.kind) (.string rb.name) (.int .i64 rb.var) (.slice Ab rb.args.length cb)
                          have hgx : g13 < wc.heap.size → False := fun h => by have := hg13; omega
                          have hgy : g14 < wc.heap.size → False := fun h => by have := hg14; omega
                          have hTa := (hTa.keeps hkA (fun i hi h => by have h9 : i = g13 := h; omega)).keeps hkB (fun i hi h => by have h9 : i = g14 := h; omega)
                          have hTb := (hTb.keeps hkA (fun i hi h => by have h9 : i = g13 := h; omega)).keeps hkB (fun i hi h => by have h9 : i = g14 := h; omega)
                          have hq := (hq.trans hkA (fun i hi h => by have h9 : i = g13 := h; exact hgx (by omega))).trans hkB (fun i hi h => by have h9 : i = g14 := h; exact hgy (by omega))
                          have hsA := hkA.size
                          have hsB := hkB.size
                          go_wp2_with fail
                          go_meet
                          exact ⟨g13, g14, Aa, ca, Ab, cb, rfl, rfl, hbA.keeps hkB (fun h => hgg h.symm), hbB, hTa.mono (fun b hb => by omega), hTb.mono (fun b hb => by omega), hq⟩
                        exact AllT.nil
                      exact AllT.nil
                    exact AllT.nil
                  refine AllT.cons (o := { dst := some 17, op := Op.alloc 45, type := 0, pos := "types.go:415", after := #[], guard := none }) rfl (fun K hK => ?_) ?_
                  · (go_simp; generalize hw13 : World.alloc _ _ = x5; have hb13 : Blk x5 x4.heap.size 45 [.int .i64 0, .string ⟨#[]⟩, .int .i64 0, .slice none 0 0] := (by rw [← hw13]; exact Blk.new _ _ _); have hk5 : Keeps (fun _ => False) x4 x5 := (by rw [← hw13]; repeat (first | (with_reducible exact Keeps.refl _ _) | (with_reducible refine Keeps.drewN ?_ _) | (with_reducible refine Keeps.drew ?_) | with_reducible refine Keeps.alloc ?_ _)); have hl13 := hb13.lt; have hb14 := hb14.keeps hk5 (fun h => h); have hTa := hTa.keeps hk5 (fun _ _ h => h); have hnw : Sl x5 (fun b => b < x5.heap.size) dStr _ _ := (hnw.keeps hk5 (fun _ _ h => h)).mono (fun b hb => Nat.lt_of_lt_of_le hb hk5.size); have hs5 := hk5.size; have hq := hq.trans hk5 (fun _ _ h => h); clear hw13; obtain ⟨g13, hg13⟩ : ∃ g, x4.heap.size = g := ⟨_, rfl⟩; rw [hg13] at hb13 hl13 ⊢)
                    refine hK.out _ _ (fun _ => ?_) (fun hE => ?_)
                    · trivial
                    have hS := hE (by kernel_rfl)
                    clear hK K hE
                    try simp only [Act.put, List.setIfInBounds_toArray, List.set_cons_zero, List.set_cons_succ]
                    refine wpAnyT_ready (rs := [12]) (by kernel_rfl) rfl ?_
                    refine AllT.cons (o := { dst := some 85, op := Op.call { callee := Callee.value (Operand.tmp 76), args := #[Operand.tmp 84], argTypes := #[63] }, type := 45, pos := "types.go:415", after := #[⟨3, .data⟩, ⟨11, .data⟩, ⟨11, .chain⟩], guard := none }) rfl (fun K hK => ?_) ?_
                    · (go_simp; go_at_call 35; refine (build2 (N.drop kk ++ N.take kk) _ rb HRB.out _ x5 hnw (by repeat (first | (with_reducible exact Keeps.refl _ _) | (with_reducible refine Keeps.drewN ?_ _) | with_reducible refine Keeps.drew ?_))).mono ?_; rintro e x6 ⟨Ab, cb, rfl, hTb, hk6⟩; have hb13 := hb13.keeps hk6 (fun h => h); have hb14 := hb14.keeps hk6 (fun h => h); have hTa := hTa.keeps hk6 (fun _ _ h => h); have hs6 := hk6.size; have hq := hq.trans hk6 (fun _ _ h => h); go_wp2_with fail)
                      refine hK.out _ _ (fun _ => ?_) (fun hE => ?_)
                      · trivial
                      have hS := hE (by kernel_rfl)
                      clear hK K hE
                      try simp only [Act.put, List.setIfInBounds_toArray, List.set_cons_zero, List.set_cons_succ]
                      refine wpAnyT_ready (rs := [15]) (by kernel_rfl) rfl ?_
                      refine AllT.cons (o := { dst := none, op := Op.store 45 (Operand.tmp 17) (Operand.tmp 75), type := 0, pos := "types.go:415", after := #[⟨13, .data⟩, ⟨2, .data⟩, ⟨12, .chain⟩, ⟨0, .phase⟩, ⟨1, .phase⟩, ⟨2, .phase⟩, ⟨3, .textOnly .lateStores⟩, ⟨4, .textOnly .lateStores⟩, ⟨5, .textOnly .lateStores⟩, ⟨6, .textOnly .lateStoresUnsure⟩, ⟨7, .textOnly .lateStoresUnsure⟩, ⟨8, .textOnly .lateStores⟩, ⟨9, .textOnly .lateStores⟩, ⟨10, .textOnly .lateStoresUnsure⟩, ⟨11, .textOnly .lateStoresUnsure⟩, ⟨12, .textOnly .lateStoresUnsure⟩, ⟨13, .phase⟩, ⟨14, .phase⟩], guard := none }) rfl (fun K hK => ?_) ?_
                      · (have c0 := hb13.cell (i := 0) rfl; have f0 := hb13.free 0; have c1 := hb13.cell (i := 1) rfl; have f1 := hb13.free 1; have c2 := hb13.cell (i := 2) rfl; have f2 := hb13.free 2; have c3 := hb13.cell (i := 3) rfl; have f3 := hb13.free 3; go_simp)
                        refine hK.out _ _ (fun _ => ?_) (fun hE => ?_)
                        · trivial
                        have hS := hE (by kernel_rfl)
                        clear hK K hE
                        try simp only [Act.put, List.setIfInBounds_toArray, List.set_cons_zero, List.set_cons_succ]
                        refine wpAnyT_ready (rs := [16]) (by kernel_rfl) rfl ?_
                        refine AllT.cons (o := { dst := none, op := Op.store 45 (Operand.tmp 18) (Operand.tmp 85), type := 0, pos := "types.go:415", after := #[⟨14, .data⟩, ⟨12, .data⟩, ⟨15, .chain⟩, ⟨0, .phase⟩, ⟨1, .phase⟩, ⟨2, .phase⟩, ⟨3, .phase⟩, ⟨4, .phase⟩, ⟨5, .phase⟩, ⟨6, .phase⟩, ⟨7, .phase⟩, ⟨8, .phase⟩, ⟨9, .phase⟩, ⟨10, .phase⟩, ⟨11, .phase⟩, ⟨12, .phase⟩, ⟨13, .phase⟩, ⟨14, .phase⟩, ⟨15, .phase⟩], guard := none }) rfl (fun K hK => ?_) ?_
                        · (obtain ⟨hbA, hkA⟩ := four hb13 (.int .i64 ra.kind) (.string ra.name) (.int .i64 ra.var) (.slice Aa ra.args.length ca); have hgg : g14 ≠ g13 := (by omega); have hb14A := hb14.keeps hkA hgg; clear c0 c1 c2 c3 f0 f1 f2 f3; have c0 := hb14A.cell (i := 0) rfl; have f0 := hb14A.free 0; have c1 := hb14A.cell (i := 1) rfl; have f1 := hb14A.free 1; have c2 := hb14A.cell (i := 2) rfl; have f2 := hb14A.free 2; have c3 := hb14A.cell (i := 3) rfl; have f3 := hb14A.free 3; go_simp)
                          refine hK.out _ _ (fun _ => ?_) (fun hE => ?_)
                          · trivial
                          have hS := hE (by kernel_rfl)
                          clear hK K hE
                          try simp only [Act.put, List.setIfInBounds_toArray, List.set_cons_zero, List.set_cons_succ]
                          refine wpAnyT_done (by kernel_rfl) ?_ _
                          refine NoPanic.normal ?_
                          obtain ⟨hbB, hkB⟩ := four hb14A (.int .i64 rb.kind) (.string rb.name) (.int .i64 rb.var) (.slice Ab rb.args.length cb)
                          have hgx : g13 < wc.heap.size → False := fun h => by have := hg13; omega
                          have hgy : g14 < wc.heap.size → False := fun h => by have := hg14; omega
                          have hTa := (hTa.keeps hkA (fun i hi h => by have h9 : i = g13 := h; omega)).keeps hkB (fun i hi h => by have h9 : i = g14 := h; omega)
                          have hTb := (hTb.keeps hkA (fun i hi h => by have h9 : i = g13 := h; omega)).keeps hkB (fun i hi h => by have h9 : i = g14 := h; omega)
                          have hq := (hq.trans hkA (fun i hi h => by have h9 : i = g13 := h; exact hgx (by omega))).trans hkB (fun i hi h => by have h9 : i = g14 := h; exact hgy (by omega))
                          have hsA := hkA.size
                          have hsB := hkB.size
                          go_wp2_with fail
                          go_meet
                          exact ⟨g13, g14, Aa, ca, Ab, cb, rfl, rfl, hbA.keeps hkB (fun h => hgg h.symm), hbB, hTa.mono (fun b hb => by omega), hTb.mono (fun b hb => by omega), hq⟩
                        exact AllT.nil
                      exact AllT.nil
                    exact AllT.nil
                  exact AllT.nil
                refine AllT.cons (o := { dst := some 17, op := Op.alloc 45, type := 0, pos := "types.go:415", after := #[], guard := none }) rfl (fun K hK => ?_) ?_
                · (go_simp; generalize hw13 : World.alloc _ _ = x4; have hb13 : Blk x4 x3.heap.size 45 [.int .i64 0, .string ⟨#[]⟩, .int .i64 0, .slice none 0 0] := (by rw [← hw13]; exact Blk.new _ _ _); have hk4 : Keeps (fun _ => False) x3 x4 := (by rw [← hw13]; repeat (first | (with_reducible exact Keeps.refl _ _) | (with_reducible refine Keeps.drewN ?_ _) | (with_reducible refine Keeps.drew ?_) | with_reducible refine Keeps.alloc ?_ _)); have hl13 := hb13.lt; have hb14 := hb14.keeps hk4 (fun h => h); have hTa := hTa.keeps hk4 (fun _ _ h => h); have hown := own_keeps hown hk4 (fun _ _ h => h); have hs4 := hk4.size; have hq := hq.trans hk4 (fun _ _ h => h); clear hw13; obtain ⟨g13, hg13⟩ : ∃ g, x3.heap.size = g := ⟨_, rfl⟩; rw [hg13] at hb13 hl13 ⊢)
                  refine hK.out _ _ (fun _ => ?_) (fun hE => ?_)
                  · trivial
                  have hS := hE (by kernel_rfl)
                  clear hK K hE
                  try simp only [Act.put, List.setIfInBounds_toArray, List.set_cons_zero, List.set_cons_succ]
                  refine wpAnyT_ready (rs := [11]) (by kernel_rfl) rfl ?_
                  refine AllT.cons (o := { dst := some 84, op := Op.call { callee := Callee.builtin Builtin.append, args := #[Operand.tmp 80, Operand.tmp 83], argTypes := #[63, 63] }, type := 63, pos := "types.go:415", after := #[⟨7, .data⟩, ⟨10, .data⟩, ⟨7, .chain⟩], guard := none }) rfl (fun K hK => ?_) ?_
                  · (have hBs : B ≤ x4.heap.size := (by omega); refine step_append_sl _ rfl (.tmp 80) (.tmp 83) 63 rfl B 9 i0 _ 1 16 Tryd.underlying63 hi0 hz0 hz1 hz2 rfl (by decide) u (N.drop kk).length _ rfl hown dStr dStr.wide _ (N.take kk) _ kk cn rfl (HTk.out.keeps hq (fun _ _ h => h)) HM.out HBy.out hBs ?_; intro nv x5 news hnews hnown hgrow hat; have hk5 : Keeps (fun i => u.ownBlock = some i) x4 x5 := (Keeps.refl _ _).grown hgrow (fun i h _ => h); have hno13 : ¬ u.ownBlock = some g13 := (fun h => by have h9 := hul _ h; omega); have hno14 : ¬ u.ownBlock = some g14 := (fun h => by have h9 := hul _ h; omega); have hnoT : ∀ i, (x1.heap.size ≤ i ∧ i < x2.heap.size) → ¬ u.ownBlock = some i := (fun i hi h => by have h9 := hul _ h; omega); have hnoQ : ∀ i, i < wc.heap.size → u.ownBlock = some i → False := (fun i hi h => by have h9 := hul _ h; have := hq.size; omega); have hb13 := hb13.keeps hk5 (hno13); have hb14 := hb14.keeps hk5 (hno14); have hTa := hTa.keeps hk5 hnoT; have hs5 := hk5.size; have hq := hq.trans hk5 hnoQ; have hnw := moved hnews hnown HNs.out HKl.out)
                    refine hK.out _ _ (fun _ => ?_) (fun hE => ?_)
                    · trivial
                    have hS := hE (by kernel_rfl)
                    clear hK K hE
                    try simp only [Act.put, List.setIfInBounds_toArray, List.set_cons_zero, List.set_cons_succ]
                    refine wpAnyT_ready (rs := [12]) (by kernel_rfl) rfl ?_
                    refine AllT.cons (o := { dst := some 85, op := Op.call { callee := Callee.value (Operand.tmp 76), args := #[Operand.tmp 84], argTypes := #[63] }, type := 45, pos := "types.go:415", after := #[⟨3, .data⟩, ⟨11, .data⟩, ⟨11, .chain⟩], guard := none }) rfl (fun K hK => ?_) ?_
                    · (go_simp; go_at_call 35; refine (build2 (N.drop kk ++ N.take kk) _ rb HRB.out _ x5 hnw (by repeat (first | (with_reducible exact Keeps.refl _ _) | (with_reducible refine Keeps.drewN ?_ _) | with_reducible refine Keeps.drew ?_))).mono ?_; rintro e x6 ⟨Ab, cb, rfl, hTb, hk6⟩; have hb13 := hb13.keeps hk6 (fun h => h); have hb14 := hb14.keeps hk6 (fun h => h); have hTa := hTa.keeps hk6 (fun _ _ h => h); have hs6 := hk6.size; have hq := hq.trans hk6 (fun _ _ h => h); go_wp2_with fail)
                      refine hK.out _ _ (fun _ => ?_) (fun hE => ?_)
                      · trivial
                      have hS := hE (by kernel_rfl)
                      clear hK K hE
                      try simp only [Act.put, List.setIfInBounds_toArray, List.set_cons_zero, List.set_cons_succ]
                      refine wpAnyT_ready (rs := [15]) (by kernel_rfl) rfl ?_
                      refine AllT.cons (o := { dst := none, op := Op.store 45 (Operand.tmp 17) (Operand.tmp 75), type := 0, pos := "types.go:415", after := #[⟨13, .data⟩, ⟨2, .data⟩, ⟨12, .chain⟩, ⟨0, .phase⟩, ⟨1, .phase⟩, ⟨2, .phase⟩, ⟨3, .textOnly .lateStores⟩, ⟨4, .textOnly .lateStores⟩, ⟨5, .textOnly .lateStores⟩, ⟨6, .textOnly .lateStoresUnsure⟩, ⟨7, .textOnly .lateStoresUnsure⟩, ⟨8, .textOnly .lateStores⟩, ⟨9, .textOnly .lateStores⟩, ⟨10, .textOnly .lateStoresUnsure⟩, ⟨11, .textOnly .lateStoresUnsure⟩, ⟨12, .textOnly .lateStoresUnsure⟩, ⟨13, .phase⟩, ⟨14, .phase⟩], guard := none }) rfl (fun K hK => ?_) ?_
                      · (have c0 := hb13.cell (i := 0) rfl; have f0 := hb13.free 0; have c1 := hb13.cell (i := 1) rfl; have f1 := hb13.free 1; have c2 := hb13.cell (i := 2) rfl; have f2 := hb13.free 2; have c3 := hb13.cell (i := 3) rfl; have f3 := hb13.free 3; go_simp)
                        refine hK.out _ _ (fun _ => ?_) (fun hE => ?_)
                        · trivial
                        have hS := hE (by kernel_rfl)
                        clear hK K hE
                        try simp only [Act.put, List.setIfInBounds_toArray, List.set_cons_zero, List.set_cons_succ]
                        refine wpAnyT_ready (rs := [16]) (by kernel_rfl) rfl ?_
                        refine AllT.cons (o := { dst := none, op := Op.store 45 (Operand.tmp 18) (Operand.tmp 85), type := 0, pos := "types.go:415", after := #[⟨14, .data⟩, ⟨12, .data⟩, ⟨15, .chain⟩, ⟨0, .phase⟩, ⟨1, .phase⟩, ⟨2, .phase⟩, ⟨3, .phase⟩, ⟨4, .phase⟩, ⟨5, .phase⟩, ⟨6, .phase⟩, ⟨7, .phase⟩, ⟨8, .phase⟩, ⟨9, .phase⟩, ⟨10, .phase⟩, ⟨11, .phase⟩, ⟨12, .phase⟩, ⟨13, .phase⟩, ⟨14, .phase⟩, ⟨15, .phase⟩], guard := none }) rfl (fun K hK => ?_) ?_
                        · (obtain ⟨hbA, hkA⟩ := four hb13 (.int .i64 ra.kind) (.string ra.name) (.int .i64 ra.var) (.slice Aa ra.args.length ca); have hgg : g14 ≠ g13 := (by omega); have hb14A := hb14.keeps hkA hgg; clear c0 c1 c2 c3 f0 f1 f2 f3; have c0 := hb14A.cell (i := 0) rfl; have f0 := hb14A.free 0; have c1 := hb14A.cell (i := 1) rfl; have f1 := hb14A.free 1; have c2 := hb14A.cell (i := 2) rfl; have f2 := hb14A.free 2; have c3 := hb14A.cell (i := 3) rfl; have f3 := hb14A.free 3; go_simp)
                          refine hK.out _ _ (fun _ => ?_) (fun hE => ?_)
                          · trivial
                          have hS := hE (by kernel_rfl)
                          clear hK K hE
                          try simp only [Act.put, List.setIfInBounds_toArray, List.set_cons_zero, List.set_cons_succ]
                          refine wpAnyT_done (by kernel_rfl) ?_ _
                          refine NoPanic.normal ?_
                          obtain ⟨hbB, hkB⟩ := four hb14A (.int .i64 rb.kind) (.string rb.name) (.int .i64 rb.var) (.slice Ab rb.args.length cb)
                          have hgx : g13 < wc.heap.size → False := fun h => by have := hg13; omega
                          have hgy : g14 < wc.heap.size → False := fun h => by have := hg14; omega
                          have hTa := (hTa.keeps hkA (fun i hi h => by have h9 : i = g13 := h; omega)).keeps hkB (fun i hi h => by have h9 : i = g14 := h; omega)
                          have hTb := (hTb.keeps hkA (fun i hi h => by have h9 : i = g13 := h; omega)).keeps hkB (fun i hi h => by have h9 : i = g14 := h; omega)
                          have hq := (hq.trans hkA (fun i hi h => by have h9 : i = g13 := h; exact hgx (by omega))).trans hkB (fun i hi h => by have h9 : i = g14 := h; exact hgy (by omega))
                          have hsA := hkA.size
                          have hsB := hkB.size
                          go_wp2_with fail
                          go_meet
                          exact ⟨g13, g14, Aa, ca, Ab, cb, rfl, rfl, hbA.keeps hkB (fun h => hgg h.symm), hbB, hTa.mono (fun b hb => by omega), hTb.mono (fun b hb => by omega), hq⟩
                        exact AllT.nil
                      exact AllT.nil
                    exact AllT.nil
                  exact AllT.nil
                exact AllT.nil
              refine AllT.cons (o := { dst := some 17, op := Op.alloc 45, type := 0, pos := "types.go:415", after := #[], guard := none }) rfl (fun K hK => ?_) ?_
              · (go_simp; generalize hw13 : World.alloc _ _ = x3; have hb13 : Blk x3 x2.heap.size 45 [.int .i64 0, .string ⟨#[]⟩, .int .i64 0, .slice none 0 0] := (by rw [← hw13]; exact Blk.new _ _ _); have hk3 : Keeps (fun _ => False) x2 x3 := (by rw [← hw13]; repeat (first | (with_reducible exact Keeps.refl _ _) | (with_reducible refine Keeps.drewN ?_ _) | (with_reducible refine Keeps.drew ?_) | with_reducible refine Keeps.alloc ?_ _)); have hl13 := hb13.lt; have hb14 := hb14.keeps hk3 (fun h => h); have hTa := hTa.keeps hk3 (fun _ _ h => h); have hs3 := hk3.size; have hq := hq.trans hk3 (fun _ _ h => h); clear hw13; obtain ⟨g13, hg13⟩ : ∃ g, x2.heap.size = g := ⟨_, rfl⟩; rw [hg13] at hb13 hl13 ⊢)
                refine hK.out _ _ (fun _ => ?_) (fun hE => ?_)
                · trivial
                have hS := hE (by kernel_rfl)
                clear hK K hE
                try simp only [Act.put, List.setIfInBounds_toArray, List.set_cons_zero, List.set_cons_succ]
                refine wpAnyT_ready (rs := [7]) (by kernel_rfl) rfl ?_
                refine AllT.cons (o := { dst := some 80, op := Op.call { callee := Callee.value (Operand.func 36), args := #[Operand.tmp 79], argTypes := #[63] }, type := 63, pos := "types.go:415", after := #[⟨6, .data⟩, ⟨2, .chain⟩], guard := none }) rfl (fun K hK => ?_) ?_
                · (go_simp; go_at_call 36; refine (HCl.out _ x3 (hq.trans (by repeat (first | (with_reducible exact Keeps.refl _ _) | (with_reducible refine Keeps.drewN ?_ _) | with_reducible refine Keeps.drew ?_)) (fun _ _ h => h)) (by repeat (first | (with_reducible exact Keeps.refl _ _) | (with_reducible refine Keeps.drewN ?_ _) | with_reducible refine Keeps.drew ?_))).mono ?_; rintro e x4 ⟨u, B, rfl, hBl, hBh, hown, hul, hk4⟩; have hb13 := hb13.keeps hk4 (fun h => h); have hb14 := hb14.keeps hk4 (fun h => h); have hTa := hTa.keeps hk4 (fun _ _ h => h); have hs4 := hk4.size; have hq := hq.trans hk4 (fun _ _ h => h); go_wp2_with fail)
                  refine hK.out _ _ (fun _ => ?_) (fun hE => ?_)
                  · trivial
                  have hS := hE (by kernel_rfl)
                  clear hK K hE
                  try simp only [Act.put, List.setIfInBounds_toArray, List.set_cons_zero, List.set_cons_succ]
                  refine wpAnyT_ready (rs := [11]) (by kernel_rfl) rfl ?_
                  refine AllT.cons (o := { dst := some 84, op := Op.call { callee := Callee.builtin Builtin.append, args := #[Operand.tmp 80, Operand.tmp 83], argTypes := #[63, 63] }, type := 63, pos := "types.go:415", after := #[⟨7, .data⟩, ⟨10, .data⟩, ⟨7, .chain⟩], guard := none }) rfl (fun K hK => ?_) ?_
                  · (have hBs : B ≤ x4.heap.size := (by omega); refine step_append_sl _ rfl (.tmp 80) (.tmp 83) 63 rfl B 9 i0 _ 1 16 Tryd.underlying63 hi0 hz0 hz1 hz2 rfl (by decide) u (N.drop kk).length _ rfl hown dStr dStr.wide _ (N.take kk) _ kk cn rfl (HTk.out.keeps hq (fun _ _ h => h)) HM.out HBy.out hBs ?_; intro nv x5 news hnews hnown hgrow hat; have hk5 : Keeps (fun i => u.ownBlock = some i) x4 x5 := (Keeps.refl _ _).grown hgrow (fun i h _ => h); have hno13 : ¬ u.ownBlock = some g13 := (fun h => by have h9 := hul _ h; omega); have hno14 : ¬ u.ownBlock = some g14 := (fun h => by have h9 := hul _ h; omega); have hnoT : ∀ i, (x1.heap.size ≤ i ∧ i < x2.heap.size) → ¬ u.ownBlock = some i := (fun i hi h => by have h9 := hul _ h; omega); have hnoQ : ∀ i, i < wc.heap.size → u.ownBlock = some i → False := (fun i hi h => by have h9 := hul _ h; have := hq.size; omega); have hb13 := hb13.keeps hk5 (hno13); have hb14 := hb14.keeps hk5 (hno14); have hTa := hTa.keeps hk5 hnoT; have hs5 := hk5.size; have hq := hq.trans hk5 hnoQ; have hnw := moved hnews hnown HNs.out HKl.out)
                    refine hK.out _ _ (fun _ => ?_) (fun hE => ?_)
                    · trivial
                    have hS := hE (by kernel_rfl)
                    clear hK K hE
                    try simp only [Act.put, List.setIfInBounds_toArray, List.set_cons_zero, List.set_cons_succ]
                    refine wpAnyT_ready (rs := [12]) (by kernel_rfl) rfl ?_
                    refine AllT.cons (o := { dst := some 85, op := Op.call { callee := Callee.value (Operand.tmp 76), args := #[Operand.tmp 84], argTypes := #[63] }, type := 45, pos := "types.go:415", after := #[⟨3, .data⟩, ⟨11, .data⟩, ⟨11, .chain⟩], guard := none }) rfl (fun K hK => ?_) ?_
                    · (go_simp; go_at_call 35; refine (build2 (N.drop kk ++ N.take kk) _ rb HRB.out _ x5 hnw (by repeat (first | (with_reducible exact Keeps.refl _ _) | (with_reducible refine Keeps.drewN ?_ _) | with_reducible refine Keeps.drew ?_))).mono ?_; rintro e x6 ⟨Ab, cb, rfl, hTb, hk6⟩; have hb13 := hb13.keeps hk6 (fun h => h); have hb14 := hb14.keeps hk6 (fun h => h); have hTa := hTa.keeps hk6 (fun _ _ h => h); have hs6 := hk6.size; have hq := hq.trans hk6 (fun _ _ h => h); go_wp2_with fail)
                      refine hK.out _ _ (fun _ => ?_) (fun hE => ?_)
                      · trivial
                      have hS := hE (by kernel_rfl)
                      clear hK K hE
                      try simp only [Act.put, List.setIfInBounds_toArray, List.set_cons_zero, List.set_cons_succ]
                      refine wpAnyT_ready (rs := [15]) (by kernel_rfl) rfl ?_
                      refine AllT.cons (o := { dst := none, op := Op.store 45 (Operand.tmp 17) (Operand.tmp 75), type := 0, pos := "types.go:415", after := #[⟨13, .data⟩, ⟨2, .data⟩, ⟨12, .chain⟩, ⟨0, .phase⟩, ⟨1, .phase⟩, ⟨2, .phase⟩, ⟨3, .textOnly .lateStores⟩, ⟨4, .textOnly .lateStores⟩, ⟨5, .textOnly .lateStores⟩, ⟨6, .textOnly .lateStoresUnsure⟩, ⟨7, .textOnly .lateStoresUnsure⟩, ⟨8, .textOnly .lateStores⟩, ⟨9, .textOnly .lateStores⟩, ⟨10, .textOnly .lateStoresUnsure⟩, ⟨11, .textOnly .lateStoresUnsure⟩, ⟨12, .textOnly .lateStoresUnsure⟩, ⟨13, .phase⟩, ⟨14, .phase⟩], guard := none }) rfl (fun K hK => ?_) ?_
                      · (have c0 := hb13.cell (i := 0) rfl; have f0 := hb13.free 0; have c1 := hb13.cell (i := 1) rfl; have f1 := hb13.free 1; have c2 := hb13.cell (i := 2) rfl; have f2 := hb13.free 2; have c3 := hb13.cell (i := 3) rfl; have f3 := hb13.free 3; go_simp)
                        refine hK.out _ _ (fun _ => ?_) (fun hE => ?_)
                        · trivial
                        have hS := hE (by kernel_rfl)
                        clear hK K hE
                        try simp only [Act.put, List.setIfInBounds_toArray, List.set_cons_zero, List.set_cons_succ]
                        refine wpAnyT_ready (rs := [16]) (by kernel_rfl) rfl ?_
                        refine AllT.cons (o := { dst := none, op := Op.store 45 (Operand.tmp 18) (Operand.tmp 85), type := 0, pos := "types.go:415", after := #[⟨14, .data⟩, ⟨12, .data⟩, ⟨15, .chain⟩, ⟨0, .phase⟩, ⟨1, .phase⟩, ⟨2, .phase⟩, ⟨3, .phase⟩, ⟨4, .phase⟩, ⟨5, .phase⟩, ⟨6, .phase⟩, ⟨7, .phase⟩, ⟨8, .phase⟩, ⟨9, .phase⟩, ⟨10, .phase⟩, ⟨11, .phase⟩, ⟨12, .phase⟩, ⟨13, .phase⟩, ⟨14, .phase⟩, ⟨15, .phase⟩], guard := none }) rfl (fun K hK => ?_) ?_
                        · (obtain ⟨hbA, hkA⟩ := four hb13 (.int .i64 ra.kind) (.string ra.name) (.int .i64 ra.var) (.slice Aa ra.args.length ca); have hgg : g14 ≠ g13 := (by omega); have hb14A := hb14.keeps hkA hgg; clear c0 c1 c2 c3 f0 f1 f2 f3; have c0 := hb14A.cell (i := 0) rfl; have f0 := hb14A.free 0; have c1 := hb14A.cell (i := 1) rfl; have f1 := hb14A.free 1; have c2 := hb14A.cell (i := 2) rfl; have f2 := hb14A.free 2; have c3 := hb14A.cell (i := 3) rfl; have f3 := hb14A.free 3; go_simp)
                          refine hK.out _ _ (fun _ => ?_) (fun hE => ?_)
                          · trivial
                          have hS := hE (by kernel_rfl)
                          clear hK K hE
                          try simp only [Act.put, List.setIfInBounds_toArray, List.set_cons_zero, List.set_cons_succ]
                          refine wpAnyT_done (by kernel_rfl) ?_ _
                          refine NoPanic.normal ?_
                          obtain ⟨hbB, hkB⟩ := four hb14A (.int .i64 rb.kind) (.string rb.name) (.int .i64 rb.var) (.slice Ab rb.args.length cb)
                          have hgx : g13 < wc.heap.size → False := fun h => by have := hg13; omega
                          have hgy : g14 < wc.heap.size → False := fun h => by have := hg14; omega
                          have hTa := (hTa.keeps hkA (fun i hi h => by have h9 : i = g13 := h; omega)).keeps hkB (fun i hi h => by have h9 : i = g14 := h; omega)
                          have hTb := (hTb.keeps hkA (fun i hi h => by have h9 : i = g13 := h; omega)).keeps hkB (fun i hi h => by have h9 : i = g14 := h; omega)
                          have hq := (hq.trans hkA (fun i hi h => by have h9 : i = g13 := h; exact hgx (by omega))).trans hkB (fun i hi h => by have h9 : i = g14 := h; exact hgy (by omega))
                          have hsA := hkA.size
                          have hsB := hkB.size
                          go_wp2_with fail
                          go_meet
                          exact ⟨g13, g14, Aa, ca, Ab, cb, rfl, rfl, hbA.keeps hkB (fun h => hgg h.symm), hbB, hTa.mono (fun b hb => by omega), hTb.mono (fun b hb => by omega), hq⟩
                        exact AllT.nil
                      exact AllT.nil
                    exact AllT.nil
                  exact AllT.nil
                exact AllT.nil
              exact AllT.nil
            refine AllT.cons (o := { dst := some 17, op := Op.alloc 45, type := 0, pos := "types.go:415", after := #[], guard := none }) rfl (fun K hK => ?_) ?_
            · (go_simp; generalize hw13 : World.alloc _ _ = x2; have hb13 : Blk x2 x1.heap.size 45 [.int .i64 0, .string ⟨#[]⟩, .int .i64 0, .slice none 0 0] := (by rw [← hw13]; exact Blk.new _ _ _); have hk2 : Keeps (fun _ => False) x1 x2 := (by rw [← hw13]; repeat (first | (with_reducible exact Keeps.refl _ _) | (with_reducible refine Keeps.drewN ?_ _) | (with_reducible refine Keeps.drew ?_) | with_reducible refine Keeps.alloc ?_ _)); have hl13 := hb13.lt; have hb14 := hb14.keeps hk2 (fun h => h); have hs2 := hk2.size; have hq := hq.trans hk2 (fun _ _ h => h); clear hw13; obtain ⟨g13, hg13⟩ : ∃ g, x1.heap.size = g := ⟨_, rfl⟩; rw [hg13] at hb13 hl13 ⊢)
              refine hK.out _ _ (fun _ => ?_) (fun hE => ?_)
              · trivial
              have hS := hE (by kernel_rfl)
              clear hK K hE
              try simp only [Act.put, List.setIfInBounds_toArray, List.set_cons_zero, List.set_cons_succ]
              refine wpAnyT_ready (rs := [2]) (by kernel_rfl) rfl ?_
              refine AllT.cons (o := { dst := some 75, op := Op.call { callee := Callee.value (Operand.tmp 73), args := #[Operand.tmp 74], argTypes := #[63] }, type := 45, pos := "types.go:415", after := #[⟨0, .data⟩, ⟨1, .data⟩], guard := none }) rfl (fun K hK => ?_) ?_
              · (go_simp; go_at_call 35; refine (build2 N _ ra HRA.out _ x2 ((HSl.out.keeps hq (fun _ _ h => h)).mono (fun b hb => Nat.lt_of_lt_of_le hb hq.size)) (by repeat (first | (with_reducible exact Keeps.refl _ _) | (with_reducible refine Keeps.drewN ?_ _) | with_reducible refine Keeps.drew ?_))).mono ?_; rintro e x3 ⟨Aa, ca, rfl, hTa, hk3⟩; have hb13 := hb13.keeps hk3 (fun h => h); have hb14 := hb14.keeps hk3 (fun h => h); have hs3 := hk3.size; have hq := hq.trans hk3 (fun _ _ h => h); go_wp2_with fail)
                refine hK.out _ _ (fun _ => ?_) (fun hE => ?_)
                · trivial
                have hS := hE (by kernel_rfl)
                clear hK K hE
                try simp only [Act.put, List.setIfInBounds_toArray, List.set_cons_zero, List.set_cons_succ]
                refine wpAnyT_ready (rs := [7]) (by kernel_rfl) rfl ?_
                refine AllT.cons (o := { dst := some 80, op := Op.call { callee := Callee.value (Operand.func 36), args := #[Operand.tmp 79], argTypes := #[63] }, type := 63, pos := "types.go:415", after := #[⟨6, .data⟩, ⟨2, .chain⟩], guard := none }) rfl (fun K hK => ?_) ?_
                · (go_simp; go_at_call 36; refine (HCl.out _ x3 (hq.trans (by repeat (first | (with_reducible exact Keeps.refl _ _) | (with_reducible refine Keeps.drewN ?_ _) | with_reducible refine Keeps.drew ?_)) (fun _ _ h => h)) (by repeat (first | (with_reducible exact Keeps.refl _ _) | (with_reducible refine Keeps.drewN ?_ _) | with_reducible refine Keeps.drew ?_))).mono ?_; rintro e x4 ⟨u, B, rfl, hBl, hBh, hown, hul, hk4⟩; have hb13 := hb13.keeps hk4 (fun h => h); have hb14 := hb14.keeps hk4 (fun h => h); have hTa := hTa.keeps hk4 (fun _ _ h => h); have hs4 := hk4.size; have hq := hq.trans hk4 (fun _ _ h => h); go_wp2_with fail)
                  refine hK.out _ _ (fun _ => ?_) (fun hE => ?_)
                  · trivial
                  have hS := hE (by kernel_rfl)
                  clear hK K hE
                  try simp only [Act.put, List.setIfInBounds_toArray, List.set_cons_zero, List.set_cons_succ]
                  refine wpAnyT_ready (rs := [11]) (by kernel_rfl) rfl ?_
                  refine AllT.cons (o := { dst := some 84, op := Op.call { callee := Callee.builtin Builtin.append, args := #[Operand.tmp 80, Operand.tmp 83], argTypes := #[63, 63] }, type := 63, pos := "types.go:415", after := #[⟨7, .data⟩, ⟨10, .data⟩, ⟨7, .chain⟩], guard := none }) rfl (fun K hK => ?_) ?_
                  · (have hBs : B ≤ x4.heap.size := (by omega); refine step_append_sl _ rfl (.tmp 80) (.tmp 83) 63 rfl B 9 i0 _ 1 16 Tryd.underlying63 hi0 hz0 hz1 hz2 rfl (by decide) u (N.drop kk).length _ rfl hown dStr dStr.wide _ (N.take kk) _ kk cn rfl (HTk.out.keeps hq (fun _ _ h => h)) HM.out HBy.out hBs ?_; intro nv x5 news hnews hnown hgrow hat; have hk5 : Keeps (fun i => u.ownBlock = some i) x4 x5 := (Keeps.refl _ _).grown hgrow (fun i h _ => h); have hno13 : ¬ u.ownBlock = some g13 := (fun h => by have h9 := hul _ h; omega); have hno14 : ¬ u.ownBlock = some g14 := (fun h => by have h9 := hul _ h; omega); have hnoT : ∀ i, (x2.heap.size ≤ i ∧ i < x3.heap.size) → ¬ u.ownBlock = some i := (fun i hi h => by have h9 := hul _ h; omega); have hnoQ : ∀ i, i < wc.heap.size → u.ownBlock = some i → False := (fun i hi h => by have h9 := hul _ h; have := hq.size; omega); have hb13 := hb13.keeps hk5 (hno13); have hb14 := hb14.keeps hk5 (hno14); have hTa := hTa.keeps hk5 hnoT; have hs5 := hk5.size; have hq := hq.trans hk5 hnoQ; have hnw := moved hnews hnown HNs.out HKl.out)
                    refine hK.out _ _ (fun _ => ?_) (fun hE => ?_)
                    · trivial
                    have hS := hE (by kernel_rfl)
                    clear hK K hE
                    try simp only [Act.put, List.setIfInBounds_toArray, List.set_cons_zero, List.set_cons_succ]
                    refine wpAnyT_ready (rs := [12]) (by kernel_rfl) rfl ?_
                    refine AllT.cons (o := { dst := some 85, op := Op.call { callee := Callee.value (Operand.tmp 76), args := #[Operand.tmp 84], argTypes := #[63] }, type := 45, pos := "types.go:415", after := #[⟨3, .data⟩, ⟨11, .data⟩, ⟨11, .chain⟩], guard := none }) rfl (fun K hK => ?_) ?_
                    · (go_simp; go_at_call 35; refine (build2 (N.drop kk ++ N.take kk) _ rb HRB.out _ x5 hnw (by repeat (first | (with_reducible exact Keeps.refl _ _) | (with_reducible refine Keeps.drewN ?_ _) | with_reducible refine Keeps.drew ?_))).mono ?_; rintro e x6 ⟨Ab, cb, rfl, hTb, hk6⟩; have hb13 := hb13.keeps hk6 (fun h => h); have hb14 := hb14.keeps hk6 (fun h => h); have hTa := hTa.keeps hk6 (fun _ _ h => h); have hs6 := hk6.size; have hq := hq.trans hk6 (fun _ _ h => h); go_wp2_with fail)
                      refine hK.out _ _ (fun _ => ?_) (fun hE => ?_)
                      · trivial
                      have hS := hE (by kernel_rfl)
                      clear hK K hE
                      try simp only [Act.put, List.setIfInBounds_toArray, List.set_cons_zero, List.set_cons_succ]
                      refine wpAnyT_ready (rs := [15]) (by kernel_rfl) rfl ?_
                      refine AllT.cons (o := { dst := none, op := Op.store 45 (Operand.tmp 17) (Operand.tmp 75), type := 0, pos := "types.go:415", after := #[⟨13, .data⟩, ⟨2, .data⟩, ⟨12, .chain⟩, ⟨0, .phase⟩, ⟨1, .phase⟩, ⟨2, .phase⟩, ⟨3, .textOnly .lateStores⟩, ⟨4, .textOnly .lateStores⟩, ⟨5, .textOnly .lateStores⟩, ⟨6, .textOnly .lateStoresUnsure⟩, ⟨7, .textOnly .lateStoresUnsure⟩, ⟨8, .textOnly .lateStores⟩, ⟨9, .textOnly .lateStores⟩, ⟨10, .textOnly .lateStoresUnsure⟩, ⟨11, .textOnly .lateStoresUnsure⟩, ⟨12, .textOnly .lateStoresUnsure⟩, ⟨13, .phase⟩, ⟨14, .phase⟩], guard := none }) rfl (fun K hK => ?_) ?_
                      · (have c0 := hb13.cell (i := 0) rfl; have f0 := hb13.free 0; have c1 := hb13.cell (i := 1) rfl; have f1 := hb13.free 1; have c2 := hb13.cell (i := 2) rfl; have f2 := hb13.free 2; have c3 := hb13.cell (i := 3) rfl; have f3 := hb13.free 3; go_simp)
                        refine hK.out _ _ (fun _ => ?_) (fun hE => ?_)
                        · trivial
                        have hS := hE (by kernel_rfl)
                        clear hK K hE
                        try simp only [Act.put, List.setIfInBounds_toArray, List.set_cons_zero, List.set_cons_succ]
                        refine wpAnyT_ready (rs := [16]) (by kernel_rfl) rfl ?_
                        refine AllT.cons (o := { dst := none, op := Op.store 45 (Operand.tmp 18) (Operand.tmp 85), type := 0, pos := "types.go:415", after := #[⟨14, .data⟩, ⟨12, .data⟩, ⟨15, .chain⟩, ⟨0, .phase⟩, ⟨1, .phase⟩, ⟨2, .phase⟩, ⟨3, .phase⟩, ⟨4, .phase⟩, ⟨5, .phase⟩, ⟨6, .phase⟩, ⟨7, .phase⟩, ⟨8, .phase⟩, ⟨9, .phase⟩, ⟨10, .phase⟩, ⟨11, .phase⟩, ⟨12, .phase⟩, ⟨13, .phase⟩, ⟨14, .phase⟩, ⟨15, .phase⟩], guard := none }) rfl (fun K hK => ?_) ?_
                        · (obtain ⟨hbA, hkA⟩ := four hb13 (.int .i64 ra.kind) (.string ra.name) (.int .i64 ra.var) (.slice Aa ra.args.length ca); have hgg : g14 ≠ g13 := (by omega); have hb14A := hb14.keeps hkA hgg; clear c0 c1 c2 c3 f0 f1 f2 f3; have c0 := hb14A.cell (i := 0) rfl; have f0 := hb14A.free 0; have c1 := hb14A.cell (i := 1) rfl; have f1 := hb14A.free 1; have c2 := hb14A.cell (i := 2) rfl; have f2 := hb14A.free 2; have c3 := hb14A.cell (i := 3) rfl; have f3 := hb14A.free 3; go_simp)
                          refine hK.out _ _ (fun _ => ?_) (fun hE => ?_)
                          · trivial
                          have hS := hE (by kernel_rfl)
                          clear hK K hE
                          try simp only [Act.put, List.setIfInBounds_toArray, List.set_cons_zero, List.set_cons_succ]
                          refine wpAnyT_done (by kernel_rfl) ?_ _
                          refine NoPanic.normal ?_
                          obtain ⟨hbB, hkB⟩ := four hb14A (.int .i64 rb.kind) (.string rb.name) (.int .i64 rb.var) (.slice Ab rb.args.length cb)
                          have hgx : g13 < wc.heap.size → False := fun h => by have := hg13; omega
                          have hgy : g14 < wc.heap.size → False := fun h => by have := hg14; omega
                          have hTa := (hTa.keeps hkA (fun i hi h => by have h9 : i = g13 := h; omega)).keeps hkB (fun i hi h => by have h9 : i = g14 := h; omega)
                          have hTb := (hTb.keeps hkA (fun i hi h => by have h9 : i = g13 := h; omega)).keeps hkB (fun i hi h => by have h9 : i = g14 := h; omega)
                          have hq := (hq.trans hkA (fun i hi h => by have h9 : i = g13 := h; exact hgx (by omega))).trans hkB (fun i hi h => by have h9 : i = g14 := h; exact hgy (by omega))
                          have hsA := hkA.size
                          have hsB := hkB.size
                          go_wp2_with fail
                          go_meet
                          exact ⟨g13, g14, Aa, ca, Ab, cb, rfl, rfl, hbA.keeps hkB (fun h => hgg h.symm), hbB, hTa.mono (fun b hb => by omega), hTb.mono (fun b hb => by omega), hq⟩
                        exact AllT.nil
                      exact AllT.nil
                    exact AllT.nil
                  exact AllT.nil
                exact AllT.nil
              exact AllT.nil
            exact AllT.nil
          exact AllT.nil
        case rest =>
          obtain ⟨g17, g18, Aa, ca, Ab, cb, rfl, rfl, hb17, hb18, hTa, hTb, hqd⟩ := hcut
          have hk7d := HKR.out.trans hqd (fun _ _ h => h)
          have hs7d := hk7d.size
          have hSd : Sl wc (fun b => b < wc.heap.size) tyD (idS 12) (.slice As (idS 12).length cs) := (HS7.out.keeps hk7d (fun _ _ h => h)).mono (fun b hb => Nat.lt_of_lt_of_le hb hs7d)
          have hzd := (HZ.out.keeps HK7.out (fun h => h)).keeps hk7d (fun h => h)
          have hrow := entL_rowOf N (by omega)
          have hper : (entL N).Perm (entL (N.drop kk ++ N.take kk)) := entL_perm (by have := List.perm_append_comm (l₁ := N.take kk) (l₂ := N.drop kk); rwa [List.take_append_drop] at this)
          have hlE : (entL N).length = N.length := by simp [entL]
          obtain ⟨σ1, hu1, hl1⟩ := unify_perm _ _ hrow hper
          obtain ⟨r2, σ2, hu2, hr2⟩ := unify_more _ _ label hrow hper (by omega)
          have hsm := same_rows _ _ hrow hper
          have hrowB : ∀ x ∈ entL (N.drop kk ++ N.take kk), EntOk x.2 := fun x hx => by rw [hrow.1 x (hper.symm.subset hx)]; exact labV_ok _
          have hna := row_nok _ (fun x hx => by rw [hrow.1 x hx]; exact labV_ok _ : ∀ x ∈ entL N, EntOk x.2)
          have hnb := row_nok _ hrowB
          have hma := row_nodes _ (fun x hx => by rw [hrow.1 x hx]; exact labV_ok _ : ∀ x ∈ entL N, EntOk x.2)
          have hmb := row_nodes _ hrowB
          rw [← hper.length_eq] at hmb
          obtain ⟨o, ho⟩ : ∃ o, extT label numT rb = o := ⟨_, rfl⟩
          have hu2' : unifyS 400 400 (idS 12) ra o = some (r2, σ2) := by rw [← ho, ← HRA.out, ← HRB.out]; exact hu2
          rw [HRA.out, HRB.out] at hu1 hsm
          rw [HRA.out] at hna hma
          rw [HRB.out] at hnb hmb
          have HU1 : Hid (Calls Tryd.prog 21 #[.slice As 12 cs, .agg #[.int .i64 ra.kind, .string ra.name, .int .i64 ra.var, .slice Aa ra.args.length ca], .agg #[.int .i64 rb.kind, .string rb.name, .int .i64 rb.var, .slice Ab rb.args.length cb]] wc (fun e w' => (∃ gt ct, e = .returned (.tuple #[.slice (some ⟨gt, 0, none⟩) 12 ct, .int .i64 0])) ∧ Keeps (fun _ => False) wc w')) := by
            have h := unify_any 400 400 _ wc _ (idS 12) hSd (fun b hb => hb) hzd (by rw [idS_len]; omega) ra rb _ _ hTa hTb 0 σ1 hu1
            unfold tyV at h
            rw [idS_len] at h
            refine h.mono ?_
            rintro e w' ⟨hb, (⟨h, _⟩ | ⟨_, gt, ct, he, _⟩)⟩
            · exact absurd rfl h
            · exact ⟨⟨gt, ct, by rw [he, hl1]⟩, Keeps.of_below (X := fun _ => False) hb⟩
          have HEX : Hid (∀ Y, Keeps (fun _ => False) wc Y → ∀ X, Keeps (fun _ => False) Y X → Calls Tryd.prog 27 #[.string label, tyV numT (.slice none 0 0), .agg #[.int .i64 rb.kind, .string rb.name, .int .i64 rb.var, .slice Ab rb.args.length cb]] X (fun e w' => ∃ A c, e = .returned (.agg #[.int .i64 o.kind, .string o.name, .int .i64 o.var, .slice A o.args.length c]) ∧ TyC w' (fun b => b < w'.heap.size) o (.slice A o.args.length c) ∧ Keeps (fun _ => False) Y w')) := fun Y hy X hk => by
            have hdx := hy.trans hk (fun _ _ h => h)
            refine (ext_any label HLab.out X (fun b => b < wc.heap.size) numT rb (.slice none 0 0) _ num_ok (hTb.keeps hdx (fun _ _ h => h))).mono ?_
            rintro e w' ⟨ov, he, hT, hb⟩
            rw [ho] at he hT
            obtain ⟨A, c, rfl, _⟩ := hT.form
            exact ⟨A, c, he, hT.mono (fun b hb2 => by have := hdx.size; have := hb.size; rcases hb2 with h | h <;> omega), hk.trans (Keeps.of_below (X := fun _ => False) hb) (fun _ _ h => h)⟩
          have HU2 : Hid (∀ V, Keeps (fun _ => False) wc V → ∀ Y A c, Keeps (fun _ => False) V Y → TyC Y (fun b => b < Y.heap.size) o (.slice A o.args.length c) → ∀ X, Keeps (fun _ => False) Y X → Calls Tryd.prog 21 #[.slice As 12 cs, .agg #[.int .i64 ra.kind, .string ra.name, .int .i64 ra.var, .slice Aa ra.args.length ca], .agg #[.int .i64 o.kind, .string o.name, .int .i64 o.var, .slice A o.args.length c]] X (fun e w' => e = .returned (.tuple #[.slice none 0 0, .int .i64 r2]) ∧ Keeps (fun _ => False) V w')) := fun V hv Y A c hy hT X hk => by
            have hdy := hv.trans hy (fun _ _ h => h)
            have hdx := hdy.trans hk (fun _ _ h => h)
            have hsx := hdx.size
            have hsy := hk.size
            have h := unify_any 400 400 (fun b => b < X.heap.size) X _ (idS 12) ((hSd.keeps hdx (fun _ _ h => h)).mono (fun b hb => Nat.lt_of_lt_of_le hb hsx)) (fun b hb => hb) (hzd.keeps hdx (fun h => h)) (by rw [idS_len]; omega) ra o _ _ ((hTa.keeps hdx (fun _ _ h => h)).mono (fun b hb => Nat.lt_of_lt_of_le hb hsx)) ((hT.keeps hk (fun _ _ h => h)).mono (fun b hb => Nat.lt_of_lt_of_le hb hsy)) r2 σ2 hu2'
            unfold tyV at h
            rw [idS_len] at h
            refine h.mono ?_
            rintro e w' ⟨hb, (⟨_, he⟩ | ⟨h, _⟩)⟩
            · exact ⟨he, (hy.trans hk (fun _ _ h => h)).trans (Keeps.of_below (X := fun _ => False) hb) (fun _ _ h => h)⟩
            · exact absurd h hr2
          have HSA : Hid (∀ V, Keeps (fun _ => False) wc V → ∀ X, Keeps (fun _ => False) V X → Calls Tryd.prog 31 #[.agg #[.int .i64 ra.kind, .string ra.name, .int .i64 ra.var, .slice Aa ra.args.length ca], .agg #[.int .i64 rb.kind, .string rb.name, .int .i64 rb.var, .slice Ab rb.args.length cb]] X (fun e w' => e = .returned (.bool true) ∧ Keeps (fun _ => False) V w')) := fun V hv X hk => by
            have hdx := hv.trans hk (fun _ _ h => h)
            have hsx := hdx.size
            refine (same_any ra rb X (fun b => b < wc.heap.size) _ _ (hTa.keeps hdx (fun _ _ h => h)) (hTb.keeps hdx (fun _ _ h => h)) (fun b hb => Nat.lt_of_lt_of_le hb hsx) hna hnb (by omega) (by omega)).mono ?_
            rintro e w' ⟨he, hb⟩
            exact ⟨by rw [he, hsm], hk.trans (Keeps.of_below (X := fun _ => False) hb) (fun _ _ h => h)⟩
          have HQ : Hid (∀ V, Keeps (fun _ => False) wc V → ∀ X, Keeps (fun _ => False) V X → (X.cell? ⟨g17, 0, none⟩ = some (.int .i64 ra.kind) ∧ X.cell? ⟨g17, 1, none⟩ = some (.string ra.name) ∧ X.cell? ⟨g17, 2, none⟩ = some (.int .i64 ra.var) ∧ X.cell? ⟨g17, 3, none⟩ = some (.slice Aa ra.args.length ca) ∧ X.cell? ⟨g18, 0, none⟩ = some (.int .i64 rb.kind) ∧ X.cell? ⟨g18, 1, none⟩ = some (.string rb.name) ∧ X.cell? ⟨g18, 2, none⟩ = some (.int .i64 rb.var) ∧ X.cell? ⟨g18, 3, none⟩ = some (.slice Ab rb.args.length cb))) := fun V hv X hk => by
            have hdx := hv.trans hk (fun _ _ h => h)
            exact ⟨hdx.cell (hb17.cell (i := 0) rfl) (fun h => h), hdx.cell (hb17.cell (i := 1) rfl) (fun h => h), hdx.cell (hb17.cell (i := 2) rfl) (fun h => h), hdx.cell (hb17.cell (i := 3) rfl) (fun h => h), hdx.cell (hb18.cell (i := 0) rfl) (fun h => h), hdx.cell (hb18.cell (i := 1) rfl) (fun h => h), hdx.cell (hb18.cell (i := 2) rfl) (fun h => h), hdx.cell (hb18.cell (i := 3) rfl) (fun h => h)⟩
          have HW7d := Lib.hid hk7d
          have hr2b : (r2 != 0) = true := by rw [bne_iff_ne]; exact hr2
          have d0 := hb17.cell (i := 0) rfl
          have d1 := hb17.cell (i := 1) rfl
          have d2 := hb17.cell (i := 2) rfl
          have d3 := hb17.cell (i := 3) rfl
          have e0 := hb18.cell (i := 0) rfl
          have e1 := hb18.cell (i := 1) rfl
          have e2 := hb18.cell (i := 2) rfl
          have e3 := hb18.cell (i := 3) rfl
          clear hb17 hb18 hTa hTb hqd hk7d hs7d hSd hzd hrow hper hlE hu1 hl1 hu2 hr2 hsm hrowB hna hnb hma hmb ho hu2'
          go_wp2_with fail
          with_reducible refine HU1.out.mono ?_
          rintro e w8 ⟨⟨gt, ct, rfl⟩, hk8⟩
          have HEX8 := Lib.hid (HEX.out w8 hk8)
          have HU28 := Lib.hid (HU2.out w8 hk8)
          have HSA8 := Lib.hid (HSA.out w8 hk8)
          have HQ8 := Lib.hid (HQ.out w8 hk8)
          have HK8 := Lib.hid hk8
          clear hk8 HU1 HEX HU2 HSA HQ d0 d1 d2 d3 e0 e1 e2 e3
          go_wp2_with fail
          go_region_held3 (fun X => X.cell? ⟨g17, 0, none⟩ = some (.int .i64 ra.kind) ∧ X.cell? ⟨g17, 1, none⟩ = some (.string ra.name) ∧ X.cell? ⟨g17, 2, none⟩ = some (.int .i64 ra.var) ∧ X.cell? ⟨g17, 3, none⟩ = some (.slice Aa ra.args.length ca) ∧ X.cell? ⟨g18, 0, none⟩ = some (.int .i64 rb.kind) ∧ X.cell? ⟨g18, 1, none⟩ = some (.string rb.name) ∧ X.cell? ⟨g18, 2, none⟩ = some (.int .i64 rb.var) ∧ X.cell? ⟨g18, 3, none⟩ = some (.slice Ab rb.args.length cb))
            (exact HQ8.out _ (by repeat (first | (with_reducible assumption) | (with_reducible exact Keeps.refl _ _) | (with_reducible refine Keeps.drewN ?_ _) | (with_reducible refine Keeps.drew ?_) | with_reducible refine Keeps.setCell ?_ (by first | (intro _; exact rfl) | (intro _; exact Or.inl rfl) | (intro _; exact Or.inr rfl) | (simp; done) | (simp; omega)) _ | (with_reducible refine Keeps.alloc ?_ _))))
            (first
              | (go_at_call 28; with_reducible refine (num_any _).mono ?_; rintro e w9 ⟨rfl, hk9'⟩; have hk9 : Keeps (fun _ => False) w8 w9 := Keeps.trans (show Keeps (fun _ => False) w8 _ from (by repeat (first | (with_reducible assumption) | (with_reducible exact Keeps.refl _ _) | (with_reducible refine Keeps.drewN ?_ _) | (with_reducible refine Keeps.drew ?_) | with_reducible refine Keeps.setCell ?_ (by first | (intro _; exact rfl) | (intro _; exact Or.inl rfl) | (intro _; exact Or.inr rfl) | (simp; done) | (simp; omega)) _ | (with_reducible refine Keeps.alloc ?_ _)))) hk9' (fun _ _ h => h); clear hk9')
              | (go_at_call 27; refine (HEX8.out _ (by repeat (first | (with_reducible assumption) | (with_reducible exact Keeps.refl _ _) | (with_reducible refine Keeps.drewN ?_ _) | (with_reducible refine Keeps.drew ?_) | with_reducible refine Keeps.setCell ?_ (by first | (intro _; exact rfl) | (intro _; exact Or.inl rfl) | (intro _; exact Or.inr rfl) | (simp; done) | (simp; omega)) _ | (with_reducible refine Keeps.alloc ?_ _)))).mono ?_; rintro e wx ⟨Ax, cx, rfl, hTx, hkx⟩)
              | (go_at_call 21; with_reducible refine (HU28.out _ _ _ hkx hTx _ (by repeat (first | (with_reducible assumption) | (with_reducible exact Keeps.refl _ _) | (with_reducible refine Keeps.drewN ?_ _) | (with_reducible refine Keeps.drew ?_) | with_reducible refine Keeps.setCell ?_ (by first | (intro _; exact rfl) | (intro _; exact Or.inl rfl) | (intro _; exact Or.inr rfl) | (simp; done) | (simp; omega)) _ | (with_reducible refine Keeps.alloc ?_ _)))).mono ?_; rintro e wy ⟨rfl, hky⟩))
          obtain ⟨d0, d1, d2, d3, e0, e1, e2, e3⟩ := HQ8.out _ hky
          have HKY := Lib.hid hky
          clear hky hkx hTx hk9
          go_wp2_with ((go_at_call 31; with_reducible refine (HSA8.out _ HKY.out).mono ?_); rintro e wz ⟨rfl, hkz⟩)
          go_ret
          exact ⟨rfl, (((HK7.out.trans HW7d.out (fun _ _ h => h)).trans HK8.out (fun _ _ h => h)).trans hkz (fun _ _ h => h)).below (fun _ h => h.elim) (Nat.le_refl _)⟩

theorem own : ownKnob Tryd.prog.godebug = none := by kernel_rfl
theorem gSizes : Tryd.prog.globalNamed "provenance/unify.sizes" = some 0 := by kernel_rfl
theorem szs_of_laid {W : World} (h : laidMetH Tryd.prog Rows.unifyRowsRow.laid W) : Szs W := by
  have h2 : laidMetH Tryd.prog [("provenance/unify.sizes", Lib.tabData .i64 [0, -1, 3, 1, 0, 2])] W := h
  rw [MakeChecks.laidMetH_plain _ _ _ (by kernel_rfl)] at h2
  have ht := Lib.tabIs_of_head gSizes (by kernel_rfl) Tryd.underlying112 Tryd.underlying3 (by kernel_rfl) (by kernel_rfl) h2
  unfold Lib.TabIs at ht
  exact ⟨by rw [World.var?_cell gSizes ht]; rfl, by rw [World.var?_cell gSizes ht]; rfl, by rw [World.var?_cell gSizes ht]; rfl, by rw [World.var?_cell gSizes ht]; rfl, by rw [World.var?_cell gSizes ht]; rfl, by rw [World.var?_cell gSizes ht]; rfl⟩

theorem laid : laidOutB Tryd.prog = true := by kernel_rfl

set_option maxRecDepth 100000 in
theorem lifted (os : Os) (started : os.Started) (H : Type) (enc : TypeId × Value → H) :
    ReturnsInHanded {} Tryd.checked os 8 .any (fun w args => (Rows.unifyRowsSpec.pre enc Tryd.prog Tryd.f8 [] false w args ∧ laidMetH Tryd.prog Rows.unifyRowsRow.laid w) ∧ sizedMet enc Tryd.prog Tryd.f8 (OpenSpec.ofChange Rows.unifyRowsSpec) false w args)
      (Rows.unifyRowsSpec.post enc Tryd.prog Tryd.f8 false true false false) := by
  refine handed_shaped_laid (C := Tryd.checked) (L := Rows.unifyRowsRow.laid) own started (by kernel_rfl) Tryd.func8
    (ChangeSpec.witness_shaped (enc := enc) (C := Tryd.checked) (os := os) (X := fun w _ => laidMetH Tryd.prog Rows.unifyRowsRow.laid w) false (World.laidAll Tryd.prog os Rows.unifyRowsRow.laid) #[.slice none 0 0, .int .i64 0, .string ⟨#[]⟩] 8 (World.laidAll_os _ _ _)
      (World.shaped_of_ZipB (by kernel_rfl) (by kernel_rfl)) (by kernel_rfl) (by kernel_rfl) (by kernel_rfl)
      (by rw [MakeChecks.laidMetH_plain _ _ _ (by kernel_rfl)]; exact laidMet_laidAll _ (by kernel_rfl) (by kernel_rfl))) ?_
  intro W base args ds gs before hval0 hW hsz0 _ hlaid
  have hz := szs_of_laid hlaid
  have hval : ∀ (j : Nat) t v, Tryd.f8.params[j]? = some t → args[j]? = some v → Value.okWide Tryd.prog W .any base t v := hval0
  have hW' := hW
  obtain ⟨p, q, hA0, hV, hbef, hfz, hnd⟩ := hW
  have hA : DataW.TrodAll enc Tryd.prog W 0 (fun _ => true) true Tryd.f8.params.toList args.toList ds p := hA0
  rw [Tryd.params8] at hA hval
  obtain ⟨v0, vs0, d0, ds0, p0, q0, hargs, hds, rfl, h0, r0⟩ := trodAll_cons hA
  obtain ⟨v1, vs1, d1, ds1, p1, q1, rfl, rfl, rfl, h1, r1⟩ := trodAll_cons r0
  obtain ⟨v2, vs2, d2, ds2, p2, q2, rfl, rfl, rfl, h2, r2⟩ := trodAll_cons r1
  obtain ⟨rfl, rfl, rfl⟩ := trodAll_nil r2
  obtain rfl : args = #[v0, v1, v2] := by cases args; simp_all
  obtain ⟨rfl, _⟩ := trodVars_none hV
  subst hds
  obtain ⟨a0, s0⟩ := sl_of_arg (f := dStr) (k := 1) Tryd.underlying63 (by kernel_rfl) (by decide) (fun _ _ _ h => dStr.of_trod Tryd.underlying9 h) (hval 0 63 v0 rfl rfl) h0
  obtain ⟨a1, rfl, rfl, rfl, s1⟩ := open_int Tryd.underlying3 (hval 1 3 v1 rfl rfl) h1
  obtain ⟨a2, rfl, rfl, rfl, s2⟩ := open_string Tryd.underlying9 (hval 2 9 v2 rfl rfl) h2
  refine (walk a0 a1 a2 v0 W s0 s2 hz).mono fun e W' ⟨he, hb⟩ => ?_
  subst he
  exact ⟨_, rfl, law_post laid (by kernel_rfl) rfl Tryd.underlying4 rfl rfl rfl rfl hW' hb⟩

theorem over : Rows.unifyRowsRow.holds Tryd.pinned (OpenSpec.ofChange Rows.unifyRowsSpec) :=
  OpenClaim.holds_of_wide 8 Tryd.f8 rfl rfl rfl rfl rfl rfl rfl ⟨rfl, rfl, rfl, rfl, rfl⟩ rfl rfl rfl rfl rfl (by kernel_rfl) Tryd.func8 (by kernel_rfl)
    (of_decide_eq_true (by kernel_rfl)) (by unfold Func.isWrapper; first | (rw [if_pos (by decide +kernel)]; kernel_rfl) | (rw [if_neg (by decide +kernel)]; exact ⟨rfl, rfl⟩))
    (fun os started H enc _ => lifted os started H enc)

theorem proved : Rows.UnifyRowsCardSaid :=
  Claim7.holds_tied_plain_at .later [] [.data] true Rows.unifyRowsCard.stood.harness false over (fun _ h => by cases h) (by kernel_rfl) (fun _ h => by cases h) unifyRows_row_tie rfl ⟨rfl, rfl⟩ (by kernel_rfl) rfl
    (fun f fn hf hfn => by
      obtain rfl : f = 8 := Option.some.inj ((show Tryd.prog.funcNamed Tryd.f8.name = some 8 by kernel_rfl).symm.trans hf) |>.symm
      obtain rfl : fn = Tryd.f8 := (Option.some.inj (Tryd.func8.symm.trans hfn)).symm
      exact ⟨by kernel_rfl, fun j t ht => by
        rw [Tryd.params8] at ht
        have hm : t ∈ [63, 3, 9] := by simpa using Array.mem_of_getElem? ht
        have hall : ([63, 3, 9].all fun u => !Tryd.prog.wantsStandIn u) = true := by kernel_rfl
        exact (show Tryd.prog.wantsStandIn t = false by simpa using List.all_eq_true.1 hall t hm)⟩)
    (by kernel_rfl)
#print axioms proved
end Go.Proofs.YtjofndhbpglfgaaDoor.unifyRows

