/- The law's own function high: the levels of a type, counted up to 30. -/
import Derived.Test.YthchnabhbpdfgaaDoorMStb
import Derived.Deep.LoopGhost
namespace Go.Proofs.YthchnabhbpdfgaaDoor
open Go.RowKit Go.Shelf

mutual
def highP : Ty → Nat
  | .mk _ _ _ l => if l.length = 0 then 1 else highs l 0 + 1
def highs : List Ty → Nat → Nat
  | [], n => n
  | a :: r, n => highs r (if n < 30 then max n (highP a) else n)
end
theorem highs_le : ∀ (l : List Ty) (n : Nat), n ≤ highs l n
  | [], n => by rw [highs]; exact Nat.le_refl _
  | a :: r, n => by
    rw [highs]
    refine Nat.le_trans ?_ (highs_le r _)
    split <;> omega
mutual
/-- What is counted is no less than the levels, where it is small. -/
theorem high_dep : ∀ t : Ty, highP t ≤ 25 → dep t ≤ highP t
  | .mk k n v l, h => by
    rw [highP] at h ⊢
    rw [dep]
    split
    · rename_i hl
      have : l = [] := List.eq_nil_of_length_eq_zero hl
      subst this
      rw [deps]; omega
    · rename_i hl
      rw [if_neg hl] at h
      have := highs_dep l 0 (by omega)
      omega
theorem highs_dep : ∀ (l : List Ty) (n : Nat), highs l n ≤ 24 → deps l ≤ highs l n
  | [], _, _ => by rw [deps]; exact Nat.zero_le _
  | a :: r, n, h => by
    rw [highs] at h ⊢
    have h1 := highs_le r (if n < 30 then max n (highP a) else n)
    have h2 := highs_dep r _ h
    rw [deps]
    have h3 : n < 30 := Classical.byContradiction fun h3 => by rw [if_neg h3] at h1 h; omega
    rw [if_pos h3] at h1 h2 h ⊢
    have h4 := high_dep a (by omega)
    omega
end
mutual
theorem high_le : ∀ t : Ty, highP t ≤ dep t
  | .mk k n v l => by
    rw [highP, dep]
    split
    · omega
    · have := highs_max l 0; omega
theorem highs_max : ∀ (l : List Ty) (n : Nat), highs l n ≤ max n (deps l)
  | [], n => by rw [highs]; omega
  | a :: r, n => by
    rw [highs, deps]
    have h1 := highs_max r (if n < 30 then max n (highP a) else n)
    have h2 := high_le a
    split at h1 <;> rename_i h3
    · rw [if_pos h3]; omega
    · rw [if_neg h3]; omega
end
theorem highs_step (l : List Ty) (j : Nat) (h : j < l.length) (n : Nat) : highs (l.drop j) n = highs (l.drop (j + 1)) (if n < 30 then max n (highP l[j]) else n) := by
  rw [List.drop_eq_getElem_cons h, highs]
mutual
theorem chk_dep : ∀ (t : Ty) (left : Int) (row : Bool) (depth : Int), (chk t left row depth).1 = 0 → depth + (dep t : Int) ≤ 401
  | .mk k n v l, left, row, depth, h => by
    rw [chk] at h
    split at h
    · exact absurd (show (2 : Int) = 0 from h) (by decide)
    rename_i h1
    split at h
    · exact absurd (show (9 : Int) = 0 from h) (by decide)
    split at h
    · exact absurd (show (3 : Int) = 0 from h) (by decide)
    split at h
    · exact absurd (show (9 : Int) = 0 from h) (by decide)
    split at h
    · exact absurd (show (4 : Int) = 0 from h) (by decide)
    · have h2 := chks_dep k l 0 (left - 1) (depth + 1) h
      rw [dep]
      rcases h2 with h2 | h2
      · rw [h2]; omega
      · omega
theorem chks_dep (k : Int) : ∀ (l : List Ty) (j : Nat) (left depth : Int), (chks k l j left depth).1 = 0 → deps l = 0 ∨ depth + (deps l : Int) ≤ 401
  | [], _, _, _, _ => by rw [deps]; exact .inl rfl
  | b :: r, j, left, depth, h => by
    rw [chks] at h
    split at h
    · rename_i hz
      have h1 := chk_dep b _ _ _ hz
      have h2 := chks_dep k r (j + 1) _ depth h
      rw [deps]
      right
      omega
    · rename_i hz
      exact absurd h hz
end
theorem tyErr_dep {n : Nat} {t : Ty} (h : tyErr n t = 0) : dep t ≤ 400 := by
  unfold tyErr at h
  split at h
  · rename_i h2; exact absurd h h2
  · rename_i h2
    have := chk_dep t _ _ _ (Classical.not_not.1 h2)
    omega
def HighAt (t : Ty) : Prop := ∀ (X : World) (F : Nat → Prop) (av : Value), TyC X F t av →
  Calls Tryd.prog 11 #[tyV t av] X fun e w' => (∃ r, e = .returned (.int .i64 r) ∧ Hid (dep t ≤ 1000 → r = (highP t : Int))) ∧ Keeps (fun _ => False) X w'
set_option maxRecDepth 100000 in
set_option maxHeartbeats 4000000 in
theorem high_step (t : Ty) (ih : ∀ a ∈ t.args, HighAt a) : HighAt t := by
  intro W F av hT
  obtain ⟨A, c, rfl, hlc, hcm, _⟩ := hT.form
  have hlm : t.args.length ≤ 9223372036854775807 := by unfold maxLen at hcm; omega
  obtain ⟨b0, hb0⟩ : ∃ b0, W.heap.size = b0 := ⟨_, rfl⟩
  obtain ⟨W0, hW0⟩ : ∃ W0, W.alloc (.cells #[.int .i64 t.kind, .string t.name, .int .i64 t.var, .slice A t.args.length c] 24) = W0 := ⟨_, rfl⟩
  have hk0 : Keeps (fun _ => False) W W0 := by rw [← hW0]; exact (Keeps.refl _ _).alloc _
  have hX : Blk W0 b0 24 [.int .i64 t.kind, .string t.name, .int .i64 t.var, .slice A t.args.length c] := by rw [← hW0, ← hb0]; exact Blk.new W _ [_, _, _, _]
  have r3 := hX.cell (i := 3) rfl
  have HE : Hid (highP t = if t.args.length = 0 then 1 else highs t.args 0 + 1) := by
    show _ = _
    cases t with | mk k n v l => rw [highP]; rfl
  have HTa := Lib.hid (hT.args.keeps hk0 (fun _ _ h => h))
  have HX := Lib.hid hX
  have HK0 := Lib.hid hk0
  have HW0 := Lib.hid hW0
  have HB0 := Lib.hid hb0
  have HIH := Lib.hid ih
  unfold tyV
  clear hT hk0 hX hW0 hb0 ih
  go_enter Tryd.func11, Tryd.ntmps11
  by_cases hl : t.args.length = 0
  · have kl : ((t.args.length : Int) == 0) = true := by rw [hl]; rfl
    have HL := Lib.hid hl
    clear hl
    go_wp2_with fail
    rw [HW0.out, HB0.out]
    go_wp2_with fail
    go_ret
    exact ⟨⟨1, rfl, fun _ => by rw [HE.out, if_pos HL.out]; rfl⟩, HK0.out⟩
  · have kl : ((t.args.length : Int) == 0) = false := by rw [beq_eq_false_iff_ne]; omega
    have HL := Lib.hid hl
    clear hl
    go_wp2_with fail
    rw [HW0.out, HB0.out]
    go_wp2_with fail
    go_loopw [3, 13] (fun nv iv wr => ∃ (j : Nat) (n : Int), j ≤ t.args.length ∧ .int .i64 (j : Int) = iv ∧ .int .i64 n = nv ∧ Hid (dep t ≤ 1000 → ∃ m : Nat, n = (m : Int) ∧ m ≤ 1000 ∧ highs (t.args.drop j) m = highs t.args 0) ∧ Keeps (fun _ => False) W0 wr) (fun _ iv _ => t.args.length - (intOf iv).toNat)
    case atStart => exact ⟨0, 0, Nat.zero_le _, rfl, rfl, fun _ => ⟨0, rfl, Nat.zero_le _, by rw [List.drop_zero]⟩, Keeps.refl _ _⟩
    case round =>
      obtain ⟨j, n, hj, rfl, rfl, hn, hkr⟩ := hrel
      have hj0 : (0 : Int) ≤ (j : Int) := by omega
      by_cases hlt : j < t.args.length
      · have kz : (j : Int) < (t.args.length : Int) := by omega
        obtain ⟨gx, offx, xv, hadr, hgx, x0, x1, x2, x3, hTx⟩ := tyD.get (HTa.out.keeps hkr (fun _ _ h => h)) hlt
        obtain rfl := hadr
        obtain ⟨x, hx⟩ : ∃ x, t.args[j] = x := ⟨_, rfl⟩
        have hmem : x ∈ t.args := by rw [← hx]; exact List.getElem_mem _
        have HSt : Hid (∀ m, highs (t.args.drop j) m = highs (t.args.drop (j + 1)) (if m < 30 then max m (highP x) else m)) := fun m => by rw [highs_step _ j hlt m, hx]
        rw [hx] at x0 x1 x2 hTx
        obtain ⟨Ax, cx, rfl, _⟩ := hTx.form
        obtain ⟨b1, hb1⟩ : ∃ b1, wr.heap.size = b1 := ⟨_, rfl⟩
        obtain ⟨W1, hW1⟩ : ∃ W1, wr.alloc (.cells #[.int .i64 x.kind, .string x.name, .int .i64 x.var, .slice Ax x.args.length cx] 24) = W1 := ⟨_, rfl⟩
        have hk1 : Keeps (fun _ => False) wr W1 := by rw [← hW1]; exact (Keeps.refl _ _).alloc _
        have hX1 : Blk W1 b1 24 [.int .i64 x.kind, .string x.name, .int .i64 x.var, .slice Ax x.args.length cx] := by rw [← hW1, ← hb1]; exact Blk.new wr _ [_, _, _, _]
        have hda : dep x + 1 ≤ dep t := dep_arg hmem
        have hih := HIH.out x hmem W1 F _ (hTx.keeps hk1 (fun _ _ h => h))
        unfold tyV at hih
        have HC := Lib.hid hih
        have HN := Lib.hid hn.out
        have HK1 := Lib.hid (hkr.trans hk1 (fun _ _ h => h))
        have HW1 := Lib.hid hW1
        have HB1 := Lib.hid hb1
        have HDa := Lib.hid hda
        have z0 := hX1.cell (i := 0) rfl
        have z1 := hX1.cell (i := 1) rfl
        have z2 := hX1.cell (i := 2) rfl
        have z3 := hX1.cell (i := 3) rfl
        clear hkr hgx hTx hx hmem hk1 hX1 hda hih hn hW1 hb1
        by_cases h30 : n < 30
        · have HN30 := Lib.hid h30
          go_upto_region 7 with (fail)
          rw [HW1.out, HB1.out]
          go_wp2_with fail
          with_reducible refine HC.out.mono ?_
          rintro e w2 ⟨⟨r, rfl, hr⟩, hk2⟩
          have HK2 := Lib.hid (HK1.out.trans hk2 (fun _ _ h => h))
          have HR := Lib.hid hr.out
          clear hk2 hr x0 x1 x2 x3 z0 z1 z2 z3
          go_wp2_with fail
          go_roundw
          case rel => exact ⟨j + 1, max n r, by omega, by go_num, rfl, fun hd => by
            obtain ⟨m, h1, h2, h3⟩ := HN.out hd
            have hx1 := HDa.out
            have hr1 := HR.out (by omega)
            have hr2 := high_le x
            have h30 := HN30.out
            refine ⟨max m (highP x), by omega, by omega, ?_⟩
            rw [← h3, HSt.out m, if_pos (by omega)], HK2.out⟩
          case measure => simp [intOf]; omega
        · go_upto_region 7 with (fail)
          rw [HW1.out, HB1.out]
          go_wp2_with fail
          go_roundw
          case rel => exact ⟨j + 1, n, by omega, by go_num, rfl, fun hd => by
            obtain ⟨m, h1, h2, h3⟩ := HN.out hd
            refine ⟨m, h1, h2, ?_⟩
            rw [← h3, HSt.out m, if_neg (by omega)], HK1.out⟩
          case measure => simp [intOf]; omega
      · obtain rfl : j = t.args.length := by omega
        have kz : ¬ (t.args.length : Int) < (t.args.length : Int) := by omega
        have HK2 := Lib.hid (HK0.out.trans hkr (fun _ _ h => h))
        have HN := Lib.hid hn.out
        clear hkr hn
        go_wp2_with fail
        go_ret
        refine ⟨⟨_, rfl, fun hd => ?_⟩, HK2.out⟩
        obtain ⟨m, h1, h2, h3⟩ := HN.out hd
        rw [List.drop_length, highs] at h3
        rw [HE.out, if_neg HL.out, ← h3, h1]
        clear HN HK2 HE HTa HX HK0 HW0 HB0 HIH
        first
          | (unfold wrap64; omega)
          | (rw [IntKind.wrap_i64]; unfold wrap64; omega)
theorem high_any (t : Ty) : HighAt t := ty_ind (P := HighAt) high_step t
end Go.Proofs.YthchnabhbpdfgaaDoor
