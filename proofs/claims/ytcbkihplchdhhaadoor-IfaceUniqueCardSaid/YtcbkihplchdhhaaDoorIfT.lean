/- The writer: typ. -/
import Derived.Test.YtcbkihplchdhhaaDoorIfW
import Derived.Deep.RegionHeld3
import Derived.Deep.CutRange
import Derived.Deep.DeepCutAuto
import Derived.Deep.QuietTactic
import Derived.BigQuiet
namespace Go.Proofs.YtcbkihplchdhhaaDoor
open Go.RowKit Go.Shelf

namespace If
section
variable {W w w' : World} {B bw : Nat} {v : Value} {bs : Bs}
theorem WrTo.more (T : WrTo B bw v W bs w) (hk : Keeps (fun _ => False) w w') : WrTo B bw v W bs w' := by
  obtain ⟨v1, h1, h2, h3⟩ := T
  exact ⟨v1, h1.same hk, h2.trans hk (fun _ _ h => h.elim), h3⟩
theorem WrTo.keeps (T : WrTo B bw v W bs w) : Keeps (Own2 bw v) W w := by
  obtain ⟨_, _, h, _⟩ := T
  exact h
theorem WrTo.size (T : WrTo B bw v W bs w) : W.heap.size ≤ w.heap.size := T.keeps.size
theorem WrAt.to (h : WrAt W B bw v bs) : WrTo B bw v W bs W := WrTo.same h (Keeps.refl _ _)
theorem WrAt.lo (h : WrAt W B bw v bs) (hB : B ≤ bw) (i : Nat) (hi : Own2 bw v i) : B ≤ i := by
  rcases hi with rfl | hi
  · exact hB
  · exact (h.row.lt i hi).1
theorem wnum_to (T : WrTo B bw v W bs w) (hB : B ≤ bw) (n : Int) (hn : bs.length + 4 ≤ 4194304) :
    Calls Tryd.prog 35 #[.pointer (some ⟨bw, 0, none⟩), .int .i64 n] w (fun e w' => e = .returned (.tuple #[]) ∧ WrTo B bw v W (bs ++ enc4 n) w') := by
  obtain ⟨v1, h1, h2, h3⟩ := T
  refine (wnum_any w B bw v1 bs h1 (by have := h1.lt bw (.inl rfl); omega) n hn).mono ?_
  rintro e w' ⟨he, h4⟩
  exact ⟨he, WrTo.trans h2 h3 h4⟩
theorem wtext_to (T : WrTo B bw v W bs w) (hB : B ≤ bw) (s : ByteArray) (hn : bs.length + (textW s).length ≤ 4194304) :
    Calls Tryd.prog 31 #[.pointer (some ⟨bw, 0, none⟩), .string s] w (fun e w' => e = .returned (.tuple #[]) ∧ WrTo B bw v W (bs ++ textW s) w') := by
  obtain ⟨v1, h1, h2, h3⟩ := T
  refine (wtext_any w B bw v1 bs h1 (by have := h1.lt bw (.inl rfl); omega) s hn).mono ?_
  rintro e w' ⟨he, h4⟩
  exact ⟨he, WrTo.trans h2 h3 h4⟩
end
/-- A type is written. -/
def WTypAt (t : Ty) : Prop := ∀ (W w : World) (F : Nat → Prop) (av : Value) (B bw : Nat) (v : Value) (bs : Bs), TyC w F t av → (∀ i, F i → i < B) → B ≤ bw → WrTo B bw v W bs w → bs.length + (typW t).length ≤ 4194304 →
  Calls Tryd.prog 44 #[.pointer (some ⟨bw, 0, none⟩), .agg #[.int .i64 t.kind, .string t.name, .int .i64 t.var, av]] w (fun e w' => e = .returned (.tuple #[]) ∧ WrTo B bw v W (bs ++ typW t) w')
theorem typW_eq (t : Ty) : typW t = enc4 t.kind ++ textW t.name ++ enc4 t.var ++ enc4 t.args.length ++ t.args.flatMap typW := by
  cases t
  rw [typW, typsW_flat]
  rfl
theorem flat_take (l : List Ty) (j : Nat) (h : j < l.length) : (l.take (j + 1)).flatMap typW = (l.take j).flatMap typW ++ typW l[j] := by
  rw [List.take_succ_eq_append_getElem h, List.flatMap_append]; simp
theorem flat_le (l : List Ty) (j : Nat) (h : j < l.length) : ((l.take j).flatMap typW).length + (typW l[j]).length ≤ (l.flatMap typW).length := by
  have h1 : l.flatMap typW = (l.take (j + 1)).flatMap typW ++ (l.drop (j + 1)).flatMap typW := by rw [← List.flatMap_append, List.take_append_drop]
  rw [h1, flat_take l j h]
  simp only [List.length_append]; omega
set_option maxRecDepth 100000 in
set_option maxHeartbeats 8000000 in
theorem wtyp_step (t : Ty) (ih : ∀ a ∈ t.args, WTypAt a) : WTypAt t := by
  intro W w F av B bw v bs hT hF hB T hn
  obtain ⟨A, c, rfl, hlc, hcm, _⟩ := hT.form
  obtain ⟨v0, h0, hk0, hn0⟩ := T
  obtain ⟨bt, hbt⟩ : ∃ bt, w.heap.size = bt := ⟨_, rfl⟩
  obtain ⟨W0, hW0⟩ : ∃ W0, w.alloc (.cells #[.int .i64 t.kind, .string t.name, .int .i64 t.var, .slice A t.args.length c] 47) = W0 := ⟨_, rfl⟩
  have hkw : Keeps (fun _ => False) w W0 := by rw [← hW0]; exact (Keeps.refl _ _).alloc _
  have hbx : Blk W0 bt 47 [.int .i64 t.kind, .string t.name, .int .i64 t.var, .slice A t.args.length c] := by rw [← hW0, ← hbt]; exact Blk.new w _ [_, _, _, _]
  have hs1 := h0.same hkw
  have hne : ¬ Own2 bw v0 bt := fun h => by have := h0.lt bt h; omega
  have hlo := hs1.lo hB
  have hT0 := hT.keeps hkw (fun _ _ h => h)
  rw [typW_eq] at hn ⊢
  simp only [List.length_append, enc4_len, textW_len] at hn
  have hal : t.args.length ≤ 9223372036854775807 := by unfold maxLen at hcm; omega
  have HBx : Hid (∀ X bs', WrTo B bw v0 W0 bs' X → Blk X bt 47 [.int .i64 t.kind, .string t.name, .int .i64 t.var, .slice A t.args.length c]) := fun X bs' hX => hbx.keeps hX.keeps hne
  have HTy : Hid (∀ X bs', WrTo B bw v0 W0 bs' X → TyC X F t (.slice A t.args.length c)) := fun X bs' hX => hT0.keeps hX.keeps (fun i hi ho => by have := hF i hi; have := hlo i ho; omega)
  have HEnd : Hid (∀ X bs', WrTo B bw v0 W0 bs' X → WrTo B bw v W bs' X) := fun X bs' hX => WrTo.trans hk0 hn0 (by
    obtain ⟨v2, g1, g2, g3⟩ := hX
    exact ⟨v2, g1, (hkw.mono (fun _ _ h => h.elim)).trans g2 (fun _ _ h => h), fun i hi => (g3 i hi).imp id (fun h => Nat.le_trans hkw.size h)⟩)
  have T0 : Hid (WrTo B bw v0 W0 bs W0) := hs1.to
  have HF := Lib.hid hF
  have HB := Lib.hid hB
  have HIH := Lib.hid ih
  have HW0 := Lib.hid hW0
  have HBn := Lib.hid hbt
  have HZ : Hid (W0.heap.size = bt + 1) := by show _ = _; rw [← hW0, ← hbt]; simp
  have x0 := (HBx.out _ _ T0.out).cell (i := 0) rfl
  obtain ⟨b4, hb4⟩ : ∃ b4, bs ++ enc4 t.kind ++ textW t.name ++ enc4 t.var ++ enc4 (t.args.length : Int) = b4 := ⟨_, rfl⟩
  have hb4l : b4.length + (t.args.flatMap typW).length ≤ 4194304 := by
    rw [← hb4]
    simp only [List.length_append, enc4_len, textW_len]; omega
  rw [show bs ++ (enc4 t.kind ++ textW t.name ++ enc4 t.var ++ enc4 (t.args.length : Int) ++ t.args.flatMap typW) = b4 ++ t.args.flatMap typW from by rw [← hb4]; simp only [List.append_assoc]]
  have HL := Lib.hid hb4l
  have HB4 := Lib.hid hb4
  have HN := Lib.hid hn
  clear hb4 hb4l hT hF hB h0 hk0 hn0 hkw hbx hs1 hne hlo hT0 ih hW0 hbt hn
  go_enter Tryd.func44, Tryd.ntmps44
  go_upto_region 1 with (fail)
  rw [HW0.out, HBn.out]
  go_wp2_with fail
  with_reducible refine (wnum_to T0.out HB.out t.kind (by have := HN.out; omega)).mono ?_
  rintro e w1 ⟨rfl, t1⟩
  have x1 := (HBx.out _ _ t1).cell (i := 1) rfl
  have T1 := Lib.hid t1
  clear t1 x0
  go_wp2_with fail
  with_reducible refine (wtext_to T1.out HB.out t.name (by have := HN.out; simp only [List.length_append, enc4_len, textW_len]; omega)).mono ?_
  rintro e w2 ⟨rfl, t2⟩
  have x2 := (HBx.out _ _ t2).cell (i := 2) rfl
  have T2 := Lib.hid t2
  clear t2 x1 T1
  go_wp2_with fail
  with_reducible refine (wnum_to T2.out HB.out t.var (by have := HN.out; simp only [List.length_append, enc4_len, textW_len]; omega)).mono ?_
  rintro e w3 ⟨rfl, t3⟩
  have x3 := (HBx.out _ _ t3).cell (i := 3) rfl
  have T3 := Lib.hid t3
  clear t3 x2 T2
  go_wp2_with fail
  with_reducible refine (wnum_to T3.out HB.out (t.args.length : Int) (by have := HN.out; simp only [List.length_append, enc4_len, textW_len]; omega)).mono ?_
  rintro e w4 ⟨rfl, t4⟩
  have x4 := (HBx.out _ _ t4).cell (i := 3) rfl
  rw [HB4.out] at t4
  have T4 := Lib.hid t4
  clear t4 x3 T3 HN HB4
  go_wp2_with fail
  go_loopw [26] (fun i wr => ∃ j : Nat, j ≤ t.args.length ∧ .int .i64 (j : Int) = i ∧ WrTo B bw v0 W0 (b4 ++ (t.args.take j).flatMap typW) wr) (fun i _ => t.args.length - (intOf i).toNat)
  case atStart => exact ⟨0, Nat.zero_le _, rfl, by simpa using T4.out⟩
  case round =>
    obtain ⟨j, hj, rfl, hT⟩ := hrel
    by_cases hlt : j < t.args.length
    · obtain ⟨g, off, va, hA, -, c0, c1, c2, c3, hC⟩ := tyD.get (HTy.out _ _ hT).args hlt
      have hft := flat_take t.args j hlt
      have hfl := flat_le t.args j hlt
      have hmem := List.getElem_mem hlt
      obtain ⟨a, ha⟩ : ∃ a, t.args[j] = a := ⟨_, rfl⟩
      rw [ha] at c0 c1 c2 hC hft hfl hmem
      obtain ⟨Aa, ca, rfl, -, -, -⟩ := hC.form
      subst hA
      have k0 : (0 : Int) ≤ (j : Int) := by omega
      have k1 : (j : Int) < (t.args.length : Int) := by omega
      obtain ⟨ba, hba⟩ : ∃ ba, wr.heap.size = ba := ⟨_, rfl⟩
      obtain ⟨W1, hW1⟩ : ∃ W1, wr.alloc (.cells #[.int .i64 a.kind, .string a.name, .int .i64 a.var, (.slice Aa a.args.length ca)] 47) = W1 := ⟨_, rfl⟩
      have hk1 : Keeps (fun _ => False) wr W1 := by rw [← hW1]; exact (Keeps.refl _ _).alloc _
      have hb1 : Blk W1 ba 47 [.int .i64 a.kind, .string a.name, .int .i64 a.var, .slice Aa a.args.length ca] := by rw [← hW1, ← hba]; exact Blk.new wr _ [_, _, _, _]
      have y0 := hb1.cell (i := 0) rfl
      have y1 := hb1.cell (i := 1) rfl
      have y2 := hb1.cell (i := 2) rfl
      have y3 := hb1.cell (i := 3) rfl
      have HC := Lib.hid ((HIH.out a hmem) W0 W1 F (.slice Aa a.args.length ca) B bw v0 _ (hC.keeps hk1 (fun _ _ h => h)) HF.out HB.out (hT.more hk1) (by have := HL.out; simp only [List.length_append]; omega))
      have HFt := Lib.hid hft
      have HW1 := Lib.hid hW1
      have HBa := Lib.hid hba
      clear hft hfl hmem ha hC hk1 hb1 hW1 hba hT
      go_upto_region 8 with (fail)
      rw [HW1.out, HBa.out]
      clear c0 c1 c2 c3
      go_wp2_with fail
      with_reducible refine HC.out.mono ?_
      rintro e w6 ⟨rfl, t6⟩
      have T6 := Lib.hid t6
      clear t6
      go_wp2_with fail
      go_roundw
      case rel => exact ⟨j + 1, by omega, by go_num, by rw [HFt.out, ← List.append_assoc]; exact T6.out⟩
      case measure => simp [intOf]; omega
    · obtain rfl : j = t.args.length := by omega
      have k1 : ¬ ((t.args.length : Nat) : Int) < (t.args.length : Int) := by omega
      rw [List.take_of_length_le (Nat.le_refl _)] at hT
      have HX := Lib.hid (HEnd.out _ _ hT)
      clear hT
      go_wp2_with fail
      go_end0
      exact ⟨rfl, HX.out⟩
theorem wtyp_any (t : Ty) : WTypAt t := by
  obtain ⟨n, hn⟩ : ∃ n, (typW t).length = n := ⟨_, rfl⟩
  induction n using Nat.strongRecOn generalizing t with
  | _ n ih =>
    refine wtyp_step t fun a ha => ih (typW a).length ?_ a rfl
    obtain ⟨j, hj, rfl⟩ := List.getElem_of_mem ha
    have h1 := flat_le t.args j hj
    rw [← hn, typW_eq t]
    simp only [List.length_append, enc4_len]; omega
end If
end Go.Proofs.YtcbkihplchdhhaaDoor
