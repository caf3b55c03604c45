/- The parser: PeM, PeC, PeE. -/
import Derived.Test.YtcjoapmodaioiaaGreatDoorLayMk
import Derived.Test.YtcjoapmodaioiaaGreatDoorPlC
import Derived.Test.YtcjoapmodaioiaaGreatDoorMTok
import Derived.Test.YtcjoapmodaioiaaGreatDoorPaZ
section
set_option linter.unusedVariables false
namespace Go.Proofs.YtcjoapmodaioiaaGreatDoor
open Go.RowKit Go.Shelf

theorem phi_endL (t : Tok) : ∀ (n : Nat) (m : Mk), phi (endL t n m) ≤ phi m
  | 0, m => Nat.le_refl _
  | n + 1, m => by
    rw [endL]
    split
    · rename_i h
      have hne : m.st ≠ [] := fun e => by rw [e] at h; simp [topP, zCtx] at h
      have := phi_endL t n (m.close t)
      rw [phi_close t hne] at this
      exact this
    · exact Nat.le_trans (phi_endL t n m.pop) (phi_pop m)
theorem mark_st {l : List Tok} {e : Tok} (h : layChk l = 0) (he : l.getLast? = some e) : TokSt (markP l e) ∧ 0 < (markP l e).length := by
  have hb := (mark_balanced h he).2
  have h' := h
  unfold layChk at h
  split at h
  · cases h
  rename_i hlen
  rw [he] at h
  dsimp only at h
  split at h
  · cases h
  rename_i hk9
  have hne : l ≠ [] := fun hh => by rw [hh] at he; cases he
  obtain ⟨a, e', hl⟩ := snoc_of_ne hne
  obtain rfl : e = e' := by rw [hl] at he; simpa using he.symm
  obtain ⟨g1, g2, g3⟩ := okL_tok l none h a e hl
  obtain ⟨out, hout⟩ : ∃ out, (endL e (goM none l ⟨[], []⟩).st.length (goM none l ⟨[], []⟩)).out = out := ⟨_, rfl⟩
  have hm : markP l e = out ++ [e] := by unfold markP; rw [← hout]
  have hem : e ∈ l := by rw [hl]; simp
  have hlay := (g1 e hem).2.2.2.2
  rw [hm, plainL_app, if_neg (by rw [hlay]; exact Bool.false_ne_true), hl] at hb
  have hpa : plainL out = a := List.append_cancel_right hb
  have hno : ∀ t ∈ out, t.kind ≠ 9 := fun t ht h9 => by
    have hlk : layK t = false := by unfold layK; rw [h9]; decide
    have hmem : t ∈ plainL out := List.mem_filter.2 ⟨ht, by rw [hlk]; rfl⟩
    rw [hpa] at hmem
    exact g2 t hmem h9
  have hphi : out.length ≤ 5 * l.length := by
    have h1 := phi_endL e (goM none l ⟨[], []⟩).st.length (goM none l ⟨[], []⟩)
    have h2 := phi_atM l (fun t ht => by have := (g1 t ht).2.1; omega) l.length (Nat.le_refl _)
    rw [atM_all] at h2
    have h3 : out.length ≤ phi (endL e (goM none l ⟨[], []⟩).st.length (goM none l ⟨[], []⟩)) := by unfold phi; rw [hout]; omega
    omega
  rw [hm]
  refine ⟨⟨by rw [List.length_append]; simp only [List.length_cons, List.length_nil]; omega, fun i hi => ?_⟩, by simp⟩
  rw [List.length_append] at hi
  simp only [List.length_cons, List.length_nil] at hi
  by_cases hi2 : i < out.length
  · rw [List.getElem_append_left hi2]
    refine ⟨fun h9 => absurd h9 (hno _ (List.getElem_mem hi2)), fun h9 => ?_⟩
    rw [List.length_append] at h9
    simp only [List.length_cons, List.length_nil] at h9; omega
  · have h0 : i = out.length := by omega
    subst h0
    rw [List.getElem_append_right (Nat.le_refl _)]
    simp [g3]
theorem lk_of {l : List Tok} (h : TokSt l) (h0 : 0 < l.length) : Lk (l.map Tok.bt) := by
  refine ⟨by simpa using h0, fun i hi => ?_⟩
  have hi2 : i < l.length := by simpa using hi
  have := h.last i hi2
  unfold Pa.tokAt
  rw [List.length_map, List.getD_eq_getElem?_getD, List.getElem?_map, List.getElem?_eq_getElem hi2]
  exact this
end Go.Proofs.YtcjoapmodaioiaaGreatDoor
end

section
set_option linter.unusedVariables false
set_option linter.unusedSimpArgs false
namespace Go.Proofs.YtcjoapmodaioiaaGreatDoor
open Go.RowKit Go.Shelf Pa

set_option maxRecDepth 100000 in
set_option maxHeartbeats 8000000 in
theorem pcl_empty {w : World} {bp bP b2 b3 b4 cp : Nat} {lv i1 i2 i3 nv : Value} {A : Option Addr} (hq : Blk w bp 52 [lv, i1, i2, i3, nv, .slice A 0 cp]) (hp : Blk w bP 50 [.pointer (some ⟨bp, 0, none⟩)]) :
    CallsD Tryz.prog 17 #[.pointer (some ⟨bP, 0, none⟩), .pointer (some ⟨b2, 0, none⟩), .pointer (some ⟨b3, 0, none⟩), .pointer (some ⟨b4, 0, none⟩)] .returning w (fun e u' w' => e = .returned (.tuple #[]) ∧ u' = .returning ∧ Keeps (fun _ => False) w w') := by
  have HB2' : Hid True := trivial; have HQq := Lib.hid hq; have HPq := Lib.hid hp; clear hq hp; (refine callsD_of_wpS Tryz.func17 rfl fun c₀ cs hu => ?_); apply wpS_seq; apply wpS_region; simp [wpOpsS, go_sem, recoverD, hu, Tryz.ntmps17, Exit.thenS]; refine wpS_of_wp ?_; simp only [Array.replicate_succ, Array.replicate_zero, List.push_toArray, List.append_toArray, List.nil_append, List.cons_append, List.setIfInBounds_toArray, List.set_cons_zero, List.set_cons_succ]; (have hta : ∀ w : World, (Instr.typeAssert .nilIface 20 54 true).run Tryz.prog w = .ok (.tuple #[.agg #[], .bool false]) w := fun _ => by kernel_rfl); go_upto_region 4 with (fail); clear hta; refine name_wp ?_; intro w1 hw1; (have hk1 : Keeps (fun _ => False) w w1 := by rw [hw1]; first | exact (Keeps.refl _ _).alloc _ | exact Keeps.refl _ _); clear hw1; (have x1 := (HPq.out.keeps hk1 (fun h => h)).cell (i := 0) rfl); (have x2' := (HQq.out.keeps hk1 (fun h => h)).cell (i := 5) rfl); have HK1 := Lib.hid hk1; clear hk1; go_wp2_with fail; cases c₀; simp_all [bodyPostS, results, Tryz.results17, Exit.thenS]; exact HK1.out
set_option maxRecDepth 100000 in
set_option maxHeartbeats 8000000 in
theorem pcl_bad {w : World} {bp bP b2 b3 b4 gb n cp : Nat} {code : Int} {lv i1 i2 i3 nv x2 x3 x4 : Value} (hq : Blk w bp 52 [lv, i1, i2, i3, nv, .slice (some ⟨gb, 0, none⟩) n cp]) (hp : Blk w bP 50 [.pointer (some ⟨bp, 0, none⟩)]) (hn0 : 0 < n) (hncp : n ≤ cp) (hcpm : cp ≤ maxLen) (hcode : w.cell? ⟨gb, 0, none⟩ = some (.int .i64 code)) (h2 : Blk w b2 22 [x2]) (h3 : Blk w b3 23 [x3]) (h4 : Blk w b4 24 [x4]) (n32 : b3 ≠ b2) (n42 : b4 ≠ b2) (n43 : b4 ≠ b3) (hP : bP ≠ b2 ∧ bP ≠ b3 ∧ bP ≠ b4) (hpp : bp ≠ b2 ∧ bp ≠ b3 ∧ bp ≠ b4) (hg : gb ≠ b2 ∧ gb ≠ b3 ∧ gb ≠ b4) :
    CallsD Tryz.prog 17 #[.pointer (some ⟨bP, 0, none⟩), .pointer (some ⟨b2, 0, none⟩), .pointer (some ⟨b3, 0, none⟩), .pointer (some ⟨b4, 0, none⟩)] .returning w (fun e u' w' => e = .returned (.tuple #[]) ∧ u' = .returning ∧ Blk w' b2 22 [.slice none 0 0] ∧ Blk w' b3 23 [.slice (some ⟨gb, 0, none⟩) n n] ∧ Blk w' b4 24 [.int .i64 code] ∧ Keeps (fun i => i = b2 ∨ i = b3 ∨ i = b4) w w') := by
  (have HCl := Lib.hid (fun (X : World) => clipD (some ⟨gb, 0, none⟩) n cp X hncp hcpm)); (have i0 : (0 : Int) < (n : Int) := by omega); (have i1' : (n : Int) ≤ (cp : Int) := by omega); have HB2' := Lib.hid h2; have HB3' := Lib.hid h3; have HB4' := Lib.hid h4; have HNb3b2 := Lib.hid n32; have HNb4b2 := Lib.hid n42; have HNb4b3 := Lib.hid n43; have HC := Lib.hid hcode; have HPP := Lib.hid hP; have Hpp := Lib.hid hpp; have Hgg := Lib.hid hg; clear h2 h3 h4 n32 n42 n43 hn0 hncp hcpm hcode hP hpp hg; have HQq := Lib.hid hq; have HPq := Lib.hid hp; clear hq hp; (refine callsD_of_wpS Tryz.func17 rfl fun c₀ cs hu => ?_); apply wpS_seq; apply wpS_region; simp [wpOpsS, go_sem, recoverD, hu, Tryz.ntmps17, Exit.thenS]; refine wpS_of_wp ?_; simp only [Array.replicate_succ, Array.replicate_zero, List.push_toArray, List.append_toArray, List.nil_append, List.cons_append, List.setIfInBounds_toArray, List.set_cons_zero, List.set_cons_succ]; (have hta : ∀ w : World, (Instr.typeAssert .nilIface 20 54 true).run Tryz.prog w = .ok (.tuple #[.agg #[], .bool false]) w := fun _ => by kernel_rfl); go_upto_region 4 with (fail); clear hta; refine name_wp ?_; intro w1 hw1; (have hk1 : Keeps (fun _ => False) w w1 := by rw [hw1]; first | exact (Keeps.refl _ _).alloc _ | exact Keeps.refl _ _); clear hw1; (have x1 := (HPq.out.keeps hk1 (fun h => h)).cell (i := 0) rfl); (have x2' := (HQq.out.keeps hk1 (fun h => h)).cell (i := 5) rfl); have HK1 := Lib.hid hk1; (have HB2 := Lib.hid (HB2'.out.keeps hk1 (fun h => h))); (have HB3 := Lib.hid (HB3'.out.keeps hk1 (fun h => h))); (have HB4 := Lib.hid (HB4'.out.keeps hk1 (fun h => h))); have x3' := hk1.cell HC.out (fun h => h)
  have HQa : Hid (∀ X, Keeps (fun i => i = b2 ∨ i = b3 ∨ i = b4) w1 X → (X.cell? ⟨bP, 0, none⟩ = some (.pointer (some ⟨bp, 0, none⟩)) ∧ X.cell? ⟨bp, 5, none⟩ = some (.slice (some ⟨gb, 0, none⟩) n cp) ∧ X.cell? ⟨gb, 0, none⟩ = some (.int .i64 code))) := fun X hk =>
    ⟨hk.cell x1 (by show ¬ (bP = b2 ∨ bP = b3 ∨ bP = b4); have := HPP.out; omega), hk.cell x2' (by show ¬ (bp = b2 ∨ bp = b3 ∨ bp = b4); have := Hpp.out; omega), hk.cell x3' (by show ¬ (gb = b2 ∨ gb = b3 ∨ gb = b4); have := Hgg.out; omega)⟩
  clear hk1 x3'; go_upto_region 5 with (fail); clear x1 x2'; refine wp_region_till [] (fun X => X.cell? ⟨bP, 0, none⟩ = some (.pointer (some ⟨bp, 0, none⟩)) ∧ X.cell? ⟨bp, 5, none⟩ = some (.slice (some ⟨gb, 0, none⟩) n cp) ∧ X.cell? ⟨gb, 0, none⟩ = some (.int .i64 code)) (by kernel_rfl) ?_ (fun hE => ?_)
  · exact HQa.out _ (show Keeps (fun i => i = b2 ∨ i = b3 ∨ i = b4) w1 _ from (by repeat (first | (with_reducible exact Keeps.refl _ _) | (with_reducible refine Keeps.drew ?_) | (with_reducible refine Keeps.drewN ?_ _) | (with_reducible refine Keeps.setCell ?_ (by intro _; first | exact Or.inl rfl | exact Or.inr (Or.inl rfl) | exact Or.inr (Or.inr rfl)) _))))
  (have hS := hE (by kernel_rfl)); refine wpAnyT_take (i := 0) (v := ?v5_0_1) rfl (by kernel_rfl) (fun _ _ _ h => h) (Or.inl ⟨by rfl, ?y5_0_1⟩) hS ?_
  case y5_0_1 => (intro w hSw; (try dsimp only at hSw); go_simp; try with_reducible rfl)
  (try simp only [AP]); refine wpAnyT_pure (i := 1) (v := ?v5_1_2) rfl (by kernel_rfl) (fun _ _ _ h => h) (Or.inl ⟨by rfl, ?y5_1_2⟩) (fun _ => hS) ?_
  case y5_1_2 => (intro w hSw; go_simp; try with_reducible rfl)
  (try simp only [AP]); refine wpAnyT_pure (i := 2) (v := ?v5_2_3) rfl (by kernel_rfl) (fun _ _ _ h => h) (Or.inl ⟨by rfl, ?y5_2_3⟩) (fun _ => hS) ?_
  case y5_2_3 => (intro w hSw; go_simp; try with_reducible rfl)
  (try simp only [AP]); refine wpAnyT_take (i := 3) (v := ?v5_3_4) rfl (by kernel_rfl) (fun _ _ _ h => h) (Or.inl ⟨by rfl, ?y5_3_4⟩) hS ?_
  case y5_3_4 => (intro w hSw; (try dsimp only at hSw); go_simp; try with_reducible rfl)
  (try simp only [AP]); refine wpAnyT_take (i := 5) (v := ?v5_5_5) rfl (by kernel_rfl) (fun _ _ _ h => h) (Or.inl ⟨by rfl, ?y5_5_5⟩) hS ?_
  case y5_5_5 => (intro w hSw; (try dsimp only at hSw); go_simp; try with_reducible rfl)
  (try simp only [AP]); refine wpAnyT_pure (i := 6) (v := ?v5_6_6) rfl (by kernel_rfl) (fun _ _ _ h => h) (Or.inl ⟨by rfl, ?y5_6_6⟩) (fun _ => hS) ?_
  case y5_6_6 => (intro w hSw; go_simp; try with_reducible rfl)
  (try simp only [AP]); refine wpAnyT_pure (i := 7) (v := ?v5_7_7) rfl (by kernel_rfl) (fun _ _ _ h => h) (Or.inl ⟨by rfl, ?y5_7_7⟩) (fun _ => hS) ?_
  case y5_7_7 => (intro w hSw; go_simp; try with_reducible rfl)
  (try simp only [AP]); refine wpAnyT_take (i := 8) (v := ?v5_8_8) rfl (by kernel_rfl) (fun _ _ _ h => h) (Or.inl ⟨by rfl, ?y5_8_8⟩) hS ?_
  case y5_8_8 => (intro w hSw; (try dsimp only at hSw); go_simp; try with_reducible rfl)
  (try simp only [AP]); refine wpAnyT_pure (i := 9) (v := ?v5_9_9) rfl (by kernel_rfl) (fun _ _ _ h => h) (Or.inl ⟨by rfl, ?y5_9_9⟩) (fun _ => hS) ?_
  case y5_9_9 => (intro w hSw; go_simp; try with_reducible rfl)
  (try simp only [AP]); refine wpAnyT_pure (i := 10) (v := ?v5_10_10) rfl (by kernel_rfl) (fun _ _ _ h => h) (Or.inl ⟨by rfl, ?y5_10_10⟩) (fun _ => hS) ?_
  case y5_10_10 => (intro w hSw; go_simp; try with_reducible rfl)
  (try simp only [AP]); refine wpAnyT_take (i := 11) (v := ?v5_11_11) rfl (by kernel_rfl) (fun _ _ _ h => h) (Or.inl ⟨by rfl, ?y5_11_11⟩) hS ?_
  case y5_11_11 => (intro w hSw; (try dsimp only at hSw); go_simp; try with_reducible rfl)
  (try simp only [AP]); (refine wpAnyT_ready (rs := [4]) (by kernel_rfl) rfl ?_); refine AllT.cons rfl (fun K hK => ?_) ?_
  · (go_simp; go_at_call 18; refine (HCl.out _).mono ?_; rintro e9 w9 ⟨rfl, rfl⟩; go_simp); refine hK.out _ _ (fun _ => ?_) (fun hE => ?_)
    · exact HQa.out _ (show Keeps (fun i => i = b2 ∨ i = b3 ∨ i = b4) w1 _ from (by repeat (first | (with_reducible exact Keeps.refl _ _) | (with_reducible refine Keeps.drew ?_) | (with_reducible refine Keeps.drewN ?_ _) | (with_reducible refine Keeps.setCell ?_ (by intro _; first | exact Or.inl rfl | exact Or.inr (Or.inl rfl) | exact Or.inr (Or.inr rfl)) _))))
    (have hS := hE (by kernel_rfl)); clear hK K hE; (try simp only [AP]); (refine wpAnyT_ready (rs := [12]) (by kernel_rfl) rfl ?_); refine AllT.cons rfl (fun K hK => ?_) ?_
    · (have y1 := HB2.out.cell (i := 0) rfl; have y2 := HB2.out.free 0; have y3 := HB2.out.lt; have hz := HB2.out; have z1 := hz.cell (i := 0) rfl; have zf := hz.free 0; have zl := hz.lt; go_simp); refine hK.out _ _ (fun _ => ?_) (fun hE => ?_)
      · exact HQa.out _ (show Keeps (fun i => i = b2 ∨ i = b3 ∨ i = b4) w1 _ from (by repeat (first | (with_reducible exact Keeps.refl _ _) | (with_reducible refine Keeps.drew ?_) | (with_reducible refine Keeps.drewN ?_ _) | (with_reducible refine Keeps.setCell ?_ (by intro _; first | exact Or.inl rfl | exact Or.inr (Or.inl rfl) | exact Or.inr (Or.inr rfl)) _))))
      (have hS := hE (by kernel_rfl)); clear hK K hE; (try simp only [AP]); (refine wpAnyT_ready (rs := [13]) (by kernel_rfl) rfl ?_); refine AllT.cons rfl (fun K hK => ?_) ?_
      · (have mb2 := HNb3b2.out; have mb22 := Ne.symm HNb3b2.out; have y1 := HB3.out.cell (i := 0) rfl; have y2 := HB3.out.free 0; have y3 := HB3.out.lt; have hz := (HB3.out.far (p := ⟨b2, 0, none⟩) HNb3b2.out (.slice none 0 0)); have z1 := hz.cell (i := 0) rfl; have zf := hz.free 0; have zl := hz.lt; go_simp); refine hK.out _ _ (fun _ => ?_) (fun hE => ?_)
        · exact HQa.out _ (show Keeps (fun i => i = b2 ∨ i = b3 ∨ i = b4) w1 _ from (by repeat (first | (with_reducible exact Keeps.refl _ _) | (with_reducible refine Keeps.drew ?_) | (with_reducible refine Keeps.drewN ?_ _) | (with_reducible refine Keeps.setCell ?_ (by intro _; first | exact Or.inl rfl | exact Or.inr (Or.inl rfl) | exact Or.inr (Or.inr rfl)) _))))
        (have hS := hE (by kernel_rfl)); clear hK K hE; (try simp only [AP]); (refine wpAnyT_ready (rs := [14]) (by kernel_rfl) rfl ?_); refine AllT.cons rfl (fun K hK => ?_) ?_
        · (have mb2 := HNb4b2.out; have mb22 := Ne.symm HNb4b2.out; have mb3 := HNb4b3.out; have mb32 := Ne.symm HNb4b3.out; have y1 := HB4.out.cell (i := 0) rfl; have y2 := HB4.out.free 0; have y3 := HB4.out.lt; have hz := ((HB4.out.far (p := ⟨b2, 0, none⟩) HNb4b2.out (.slice none 0 0)).far (p := ⟨b3, 0, none⟩) HNb4b3.out (.slice (some ⟨gb, 0, none⟩) n n)); have z1 := hz.cell (i := 0) rfl; have zf := hz.free 0; have zl := hz.lt; go_simp); refine hK.out _ _ (fun _ => ?_) (fun hE => ?_)
          · exact HQa.out _ (show Keeps (fun i => i = b2 ∨ i = b3 ∨ i = b4) w1 _ from (by repeat (first | (with_reducible exact Keeps.refl _ _) | (with_reducible refine Keeps.drew ?_) | (with_reducible refine Keeps.drewN ?_ _) | (with_reducible refine Keeps.setCell ?_ (by intro _; first | exact Or.inl rfl | exact Or.inr (Or.inl rfl) | exact Or.inr (Or.inr rfl)) _))))
          (have hS := hE (by kernel_rfl)); clear hK K hE; (try simp only [AP]); (refine wpAnyT_done (by kernel_rfl) ?_ _); skip; obtain ⟨w2, hw2⟩ : ∃ x, (((w1.setCell ⟨b2, 0, none⟩ (.slice none 0 0)).setCell ⟨b3, 0, none⟩ (.slice (some ⟨gb, 0, none⟩) n n)).setCell ⟨b4, 0, none⟩ (.int .i64 code)).drew = x := ⟨_, rfl⟩; rw [hw2]; (have hk2 : Keeps (fun i => i = b2 ∨ i = b3 ∨ i = b4) w1 w2 := by rw [← hw2]; exact (by repeat (first | (with_reducible exact Keeps.refl _ _) | (with_reducible refine Keeps.drew ?_) | (with_reducible refine Keeps.drewN ?_ _) | (with_reducible refine Keeps.setCell ?_ (by intro _; first | exact Or.inl rfl | exact Or.inr (Or.inl rfl) | exact Or.inr (Or.inr rfl)) _)))); (have g2 : Blk w2 b2 22 [.slice none 0 0] := by rw [← hw2]; exact (((HB2.out.set_ 0 _).far (p := ⟨b3, 0, none⟩) (Ne.symm HNb3b2.out) _).far (p := ⟨b4, 0, none⟩) (Ne.symm HNb4b2.out) _).drew); (have g3 : Blk w2 b3 23 [.slice (some ⟨gb, 0, none⟩) n n] := by rw [← hw2]; exact (((HB3.out.far (p := ⟨b2, 0, none⟩) HNb3b2.out _).set_ 0 _).far (p := ⟨b4, 0, none⟩) (Ne.symm HNb4b3.out) _).drew); (have g4 : Blk w2 b4 24 [.int .i64 code] := by rw [← hw2]; exact (((HB4.out.far (p := ⟨b2, 0, none⟩) HNb4b2.out _).far (p := ⟨b3, 0, none⟩) HNb4b3.out _).set_ 0 _).drew); (have hres := (⟨g2, g3, g4, (HK1.out.mono (Y := fun i => i = b2 ∨ i = b3 ∨ i = b4) (fun _ _ h => h.elim)).trans hk2 (fun _ _ h => h)⟩ : _ ∧ _ ∧ _ ∧ _)); have HRes := Lib.hid hres; clear hw2 hk2 g2 g3 g4 hres hS; exact ⟨rfl, _, (by cases c₀; simp_all), .tuple #[], by simp [results, Tryz.results17], rfl, rfl, HRes.out⟩
        exact AllT.nil
      exact AllT.nil
    exact AllT.nil
  exact AllT.nil
set_option maxRecDepth 100000 in
set_option maxHeartbeats 8000000 in
theorem pcl_pan {w : World} {bp bP b2 b3 b4 gb n cp : Nat} {code : Int} {lv i1 i2 i3 nv x2 x3 x4 : Value} (older : List PanicEntry) (hq : Blk w bp 52 [lv, i1, i2, i3, nv, .slice (some ⟨gb, 0, none⟩) n cp]) (hp : Blk w bP 50 [.pointer (some ⟨bp, 0, none⟩)]) (hn0 : 0 < n) (hncp : n ≤ cp) (hcpm : cp ≤ maxLen) (hcode : w.cell? ⟨gb, 0, none⟩ = some (.int .i64 code)) (h2 : Blk w b2 22 [x2]) (h3 : Blk w b3 23 [x3]) (h4 : Blk w b4 24 [x4]) (n32 : b3 ≠ b2) (n42 : b4 ≠ b2) (n43 : b4 ≠ b3) (hP : bP ≠ b2 ∧ bP ≠ b3 ∧ bP ≠ b4) (hpp : bp ≠ b2 ∧ bp ≠ b3 ∧ bp ≠ b4) (hg : gb ≠ b2 ∧ gb ≠ b3 ∧ gb ≠ b4) :
    CallsD Tryz.prog 17 #[.pointer (some ⟨bP, 0, none⟩), .pointer (some ⟨b2, 0, none⟩), .pointer (some ⟨b3, 0, none⟩), .pointer (some ⟨b4, 0, none⟩)] (.panicking ({ v := .iface 54 (.agg #[]), recovered := false } :: older)) w (fun e u' w' => e = .returned (.tuple #[]) ∧ u' = .panicking ({ v := .iface 54 (.agg #[]), recovered := true } :: older) ∧ Blk w' b2 22 [.slice none 0 0] ∧ Blk w' b3 23 [.slice (some ⟨gb, 0, none⟩) n n] ∧ Blk w' b4 24 [.int .i64 code] ∧ Keeps (fun i => i = b2 ∨ i = b3 ∨ i = b4) w w') := by
  (have HCl := Lib.hid (fun (X : World) => clipD (some ⟨gb, 0, none⟩) n cp X hncp hcpm)); (have i0 : (0 : Int) < (n : Int) := by omega); (have i1' : (n : Int) ≤ (cp : Int) := by omega); have HB2' := Lib.hid h2; have HB3' := Lib.hid h3; have HB4' := Lib.hid h4; have HNb3b2 := Lib.hid n32; have HNb4b2 := Lib.hid n42; have HNb4b3 := Lib.hid n43; have HC := Lib.hid hcode; have HPP := Lib.hid hP; have Hpp := Lib.hid hpp; have Hgg := Lib.hid hg; clear h2 h3 h4 n32 n42 n43 hn0 hncp hcpm hcode hP hpp hg; have HQq := Lib.hid hq; have HPq := Lib.hid hp; clear hq hp; (refine callsD_of_wpS Tryz.func17 rfl fun c₀ cs hu => ?_); apply wpS_seq; apply wpS_region; simp [wpOpsS, go_sem, recoverD, hu, Tryz.ntmps17, Exit.thenS]; refine wpS_of_wp ?_; simp only [Array.replicate_succ, Array.replicate_zero, List.push_toArray, List.append_toArray, List.nil_append, List.cons_append, List.setIfInBounds_toArray, List.set_cons_zero, List.set_cons_succ]; (have hta : ∀ w : World, (Instr.typeAssert (.iface 54 (.agg #[])) 20 54 true).run Tryz.prog w = .ok (.tuple #[.agg #[], .bool true]) w := fun _ => by kernel_rfl); go_upto_region 4 with (fail); clear hta; refine name_wp ?_; intro w1 hw1; (have hk1 : Keeps (fun _ => False) w w1 := by rw [hw1]; first | exact (Keeps.refl _ _).alloc _ | exact Keeps.refl _ _); clear hw1; (have x1 := (HPq.out.keeps hk1 (fun h => h)).cell (i := 0) rfl); (have x2' := (HQq.out.keeps hk1 (fun h => h)).cell (i := 5) rfl); have HK1 := Lib.hid hk1; (have HB2 := Lib.hid (HB2'.out.keeps hk1 (fun h => h))); (have HB3 := Lib.hid (HB3'.out.keeps hk1 (fun h => h))); (have HB4 := Lib.hid (HB4'.out.keeps hk1 (fun h => h))); have x3' := hk1.cell HC.out (fun h => h)
  have HQa : Hid (∀ X, Keeps (fun i => i = b2 ∨ i = b3 ∨ i = b4) w1 X → (X.cell? ⟨bP, 0, none⟩ = some (.pointer (some ⟨bp, 0, none⟩)) ∧ X.cell? ⟨bp, 5, none⟩ = some (.slice (some ⟨gb, 0, none⟩) n cp) ∧ X.cell? ⟨gb, 0, none⟩ = some (.int .i64 code))) := fun X hk =>
    ⟨hk.cell x1 (by show ¬ (bP = b2 ∨ bP = b3 ∨ bP = b4); have := HPP.out; omega), hk.cell x2' (by show ¬ (bp = b2 ∨ bp = b3 ∨ bp = b4); have := Hpp.out; omega), hk.cell x3' (by show ¬ (gb = b2 ∨ gb = b3 ∨ gb = b4); have := Hgg.out; omega)⟩
  clear hk1 x3'; go_upto_region 5 with (fail); clear x1 x2'; refine wp_region_till [] (fun X => X.cell? ⟨bP, 0, none⟩ = some (.pointer (some ⟨bp, 0, none⟩)) ∧ X.cell? ⟨bp, 5, none⟩ = some (.slice (some ⟨gb, 0, none⟩) n cp) ∧ X.cell? ⟨gb, 0, none⟩ = some (.int .i64 code)) (by kernel_rfl) ?_ (fun hE => ?_)
  · exact HQa.out _ (show Keeps (fun i => i = b2 ∨ i = b3 ∨ i = b4) w1 _ from (by repeat (first | (with_reducible exact Keeps.refl _ _) | (with_reducible refine Keeps.drew ?_) | (with_reducible refine Keeps.drewN ?_ _) | (with_reducible refine Keeps.setCell ?_ (by intro _; first | exact Or.inl rfl | exact Or.inr (Or.inl rfl) | exact Or.inr (Or.inr rfl)) _))))
  (have hS := hE (by kernel_rfl)); refine wpAnyT_take (i := 0) (v := ?v5_0_1) rfl (by kernel_rfl) (fun _ _ _ h => h) (Or.inl ⟨by rfl, ?y5_0_1⟩) hS ?_
  case y5_0_1 => (intro w hSw; (try dsimp only at hSw); go_simp; try with_reducible rfl)
  (try simp only [AP]); refine wpAnyT_pure (i := 1) (v := ?v5_1_2) rfl (by kernel_rfl) (fun _ _ _ h => h) (Or.inl ⟨by rfl, ?y5_1_2⟩) (fun _ => hS) ?_
  case y5_1_2 => (intro w hSw; go_simp; try with_reducible rfl)
  (try simp only [AP]); refine wpAnyT_pure (i := 2) (v := ?v5_2_3) rfl (by kernel_rfl) (fun _ _ _ h => h) (Or.inl ⟨by rfl, ?y5_2_3⟩) (fun _ => hS) ?_
  case y5_2_3 => (intro w hSw; go_simp; try with_reducible rfl)
  (try simp only [AP]); refine wpAnyT_take (i := 3) (v := ?v5_3_4) rfl (by kernel_rfl) (fun _ _ _ h => h) (Or.inl ⟨by rfl, ?y5_3_4⟩) hS ?_
  case y5_3_4 => (intro w hSw; (try dsimp only at hSw); go_simp; try with_reducible rfl)
  (try simp only [AP]); refine wpAnyT_take (i := 5) (v := ?v5_5_5) rfl (by kernel_rfl) (fun _ _ _ h => h) (Or.inl ⟨by rfl, ?y5_5_5⟩) hS ?_
  case y5_5_5 => (intro w hSw; (try dsimp only at hSw); go_simp; try with_reducible rfl)
  (try simp only [AP]); refine wpAnyT_pure (i := 6) (v := ?v5_6_6) rfl (by kernel_rfl) (fun _ _ _ h => h) (Or.inl ⟨by rfl, ?y5_6_6⟩) (fun _ => hS) ?_
  case y5_6_6 => (intro w hSw; go_simp; try with_reducible rfl)
  (try simp only [AP]); refine wpAnyT_pure (i := 7) (v := ?v5_7_7) rfl (by kernel_rfl) (fun _ _ _ h => h) (Or.inl ⟨by rfl, ?y5_7_7⟩) (fun _ => hS) ?_
  case y5_7_7 => (intro w hSw; go_simp; try with_reducible rfl)
  (try simp only [AP]); refine wpAnyT_take (i := 8) (v := ?v5_8_8) rfl (by kernel_rfl) (fun _ _ _ h => h) (Or.inl ⟨by rfl, ?y5_8_8⟩) hS ?_
  case y5_8_8 => (intro w hSw; (try dsimp only at hSw); go_simp; try with_reducible rfl)
  (try simp only [AP]); refine wpAnyT_pure (i := 9) (v := ?v5_9_9) rfl (by kernel_rfl) (fun _ _ _ h => h) (Or.inl ⟨by rfl, ?y5_9_9⟩) (fun _ => hS) ?_
  case y5_9_9 => (intro w hSw; go_simp; try with_reducible rfl)
  (try simp only [AP]); refine wpAnyT_pure (i := 10) (v := ?v5_10_10) rfl (by kernel_rfl) (fun _ _ _ h => h) (Or.inl ⟨by rfl, ?y5_10_10⟩) (fun _ => hS) ?_
  case y5_10_10 => (intro w hSw; go_simp; try with_reducible rfl)
  (try simp only [AP]); refine wpAnyT_take (i := 11) (v := ?v5_11_11) rfl (by kernel_rfl) (fun _ _ _ h => h) (Or.inl ⟨by rfl, ?y5_11_11⟩) hS ?_
  case y5_11_11 => (intro w hSw; (try dsimp only at hSw); go_simp; try with_reducible rfl)
  (try simp only [AP]); (refine wpAnyT_ready (rs := [4]) (by kernel_rfl) rfl ?_); refine AllT.cons rfl (fun K hK => ?_) ?_
  · (go_simp; go_at_call 18; refine (HCl.out _).mono ?_; rintro e9 w9 ⟨rfl, rfl⟩; go_simp); refine hK.out _ _ (fun _ => ?_) (fun hE => ?_)
    · exact HQa.out _ (show Keeps (fun i => i = b2 ∨ i = b3 ∨ i = b4) w1 _ from (by repeat (first | (with_reducible exact Keeps.refl _ _) | (with_reducible refine Keeps.drew ?_) | (with_reducible refine Keeps.drewN ?_ _) | (with_reducible refine Keeps.setCell ?_ (by intro _; first | exact Or.inl rfl | exact Or.inr (Or.inl rfl) | exact Or.inr (Or.inr rfl)) _))))
    (have hS := hE (by kernel_rfl)); clear hK K hE; (try simp only [AP]); (refine wpAnyT_ready (rs := [12]) (by kernel_rfl) rfl ?_); refine AllT.cons rfl (fun K hK => ?_) ?_
    · (have y1 := HB2.out.cell (i := 0) rfl; have y2 := HB2.out.free 0; have y3 := HB2.out.lt; have hz := HB2.out; have z1 := hz.cell (i := 0) rfl; have zf := hz.free 0; have zl := hz.lt; go_simp); refine hK.out _ _ (fun _ => ?_) (fun hE => ?_)
      · exact HQa.out _ (show Keeps (fun i => i = b2 ∨ i = b3 ∨ i = b4) w1 _ from (by repeat (first | (with_reducible exact Keeps.refl _ _) | (with_reducible refine Keeps.drew ?_) | (with_reducible refine Keeps.drewN ?_ _) | (with_reducible refine Keeps.setCell ?_ (by intro _; first | exact Or.inl rfl | exact Or.inr (Or.inl rfl) | exact Or.inr (Or.inr rfl)) _))))
      (have hS := hE (by kernel_rfl)); clear hK K hE; (try simp only [AP]); (refine wpAnyT_ready (rs := [13]) (by kernel_rfl) rfl ?_); refine AllT.cons rfl (fun K hK => ?_) ?_
      · (have mb2 := HNb3b2.out; have mb22 := Ne.symm HNb3b2.out; have y1 := HB3.out.cell (i := 0) rfl; have y2 := HB3.out.free 0; have y3 := HB3.out.lt; have hz := (HB3.out.far (p := ⟨b2, 0, none⟩) HNb3b2.out (.slice none 0 0)); have z1 := hz.cell (i := 0) rfl; have zf := hz.free 0; have zl := hz.lt; go_simp); refine hK.out _ _ (fun _ => ?_) (fun hE => ?_)
        · exact HQa.out _ (show Keeps (fun i => i = b2 ∨ i = b3 ∨ i = b4) w1 _ from (by repeat (first | (with_reducible exact Keeps.refl _ _) | (with_reducible refine Keeps.drew ?_) | (with_reducible refine Keeps.drewN ?_ _) | (with_reducible refine Keeps.setCell ?_ (by intro _; first | exact Or.inl rfl | exact Or.inr (Or.inl rfl) | exact Or.inr (Or.inr rfl)) _))))
        (have hS := hE (by kernel_rfl)); clear hK K hE; (try simp only [AP]); (refine wpAnyT_ready (rs := [14]) (by kernel_rfl) rfl ?_); refine AllT.cons rfl (fun K hK => ?_) ?_
        · (have mb2 := HNb4b2.out; have mb22 := Ne.symm HNb4b2.out; have mb3 := HNb4b3.out; have mb32 := Ne.symm HNb4b3.out; have y1 := HB4.out.cell (i := 0) rfl; have y2 := HB4.out.free 0; have y3 := HB4.out.lt; have hz := ((HB4.out.far (p := ⟨b2, 0, none⟩) HNb4b2.out (.slice none 0 0)).far (p := ⟨b3, 0, none⟩) HNb4b3.out (.slice (some ⟨gb, 0, none⟩) n n)); have z1 := hz.cell (i := 0) rfl; have zf := hz.free 0; have zl := hz.lt; go_simp); refine hK.out _ _ (fun _ => ?_) (fun hE => ?_)
          · exact HQa.out _ (show Keeps (fun i => i = b2 ∨ i = b3 ∨ i = b4) w1 _ from (by repeat (first | (with_reducible exact Keeps.refl _ _) | (with_reducible refine Keeps.drew ?_) | (with_reducible refine Keeps.drewN ?_ _) | (with_reducible refine Keeps.setCell ?_ (by intro _; first | exact Or.inl rfl | exact Or.inr (Or.inl rfl) | exact Or.inr (Or.inr rfl)) _))))
          (have hS := hE (by kernel_rfl)); clear hK K hE; (try simp only [AP]); (refine wpAnyT_done (by kernel_rfl) ?_ _); skip; obtain ⟨w2, hw2⟩ : ∃ x, (((w1.setCell ⟨b2, 0, none⟩ (.slice none 0 0)).setCell ⟨b3, 0, none⟩ (.slice (some ⟨gb, 0, none⟩) n n)).setCell ⟨b4, 0, none⟩ (.int .i64 code)).drew = x := ⟨_, rfl⟩; rw [hw2]; (have hk2 : Keeps (fun i => i = b2 ∨ i = b3 ∨ i = b4) w1 w2 := by rw [← hw2]; exact (by repeat (first | (with_reducible exact Keeps.refl _ _) | (with_reducible refine Keeps.drew ?_) | (with_reducible refine Keeps.drewN ?_ _) | (with_reducible refine Keeps.setCell ?_ (by intro _; first | exact Or.inl rfl | exact Or.inr (Or.inl rfl) | exact Or.inr (Or.inr rfl)) _)))); (have g2 : Blk w2 b2 22 [.slice none 0 0] := by rw [← hw2]; exact (((HB2.out.set_ 0 _).far (p := ⟨b3, 0, none⟩) (Ne.symm HNb3b2.out) _).far (p := ⟨b4, 0, none⟩) (Ne.symm HNb4b2.out) _).drew); (have g3 : Blk w2 b3 23 [.slice (some ⟨gb, 0, none⟩) n n] := by rw [← hw2]; exact (((HB3.out.far (p := ⟨b2, 0, none⟩) HNb3b2.out _).set_ 0 _).far (p := ⟨b4, 0, none⟩) (Ne.symm HNb4b3.out) _).drew); (have g4 : Blk w2 b4 24 [.int .i64 code] := by rw [← hw2]; exact (((HB4.out.far (p := ⟨b2, 0, none⟩) HNb4b2.out _).far (p := ⟨b3, 0, none⟩) HNb4b3.out _).set_ 0 _).drew); (have hres := (⟨g2, g3, g4, (HK1.out.mono (Y := fun i => i = b2 ∨ i = b3 ∨ i = b4) (fun _ _ h => h.elim)).trans hk2 (fun _ _ h => h)⟩ : _ ∧ _ ∧ _ ∧ _)); have HRes := Lib.hid hres; clear hw2 hk2 g2 g3 g4 hres hS; exact ⟨rfl, _, rfl, .tuple #[], by simp [results, Tryz.results17], rfl, rfl, HRes.out⟩
        exact AllT.nil
      exact AllT.nil
    exact AllT.nil
  exact AllT.nil
end Go.Proofs.YtcjoapmodaioiaaGreatDoor
end

section
set_option linter.unusedVariables false
set_option linter.unusedSimpArgs false
namespace Go.Proofs.YtcjoapmodaioiaaGreatDoor
open Go.RowKit Go.Shelf Pa

def BadAt (w : World) (l : List Tok) (bad : List (Int × Nat)) (v : Value) : Prop := ∃ g, v = .slice (some ⟨g, 0, none⟩) bad.length bad.length ∧ bad.length ≤ maxLen ∧ ∀ (j : Nat) (u : Value), (bad.flatMap (badCells l))[j]? = some u → w.cell? ⟨g, j, none⟩ = some u
def TreeAt (w : World) (B : Nat) (nodes : List Nd) (u : Value) : Prop := ∃ (ns : List Nv) (G : Nat → Prop), ns.map Nv.nd = nodes ∧ w.ownsRow B 35 6 u ns.length (ns.flatMap Nv.cells) ∧ (∀ x ∈ ns, Sl w G kidD x.nd.kids x.kv) ∧ ∀ i, G i → B ≤ i ∧ i < w.heap.size ∧ u.ownBlock ≠ some i
section
variable {tmps : Array Value} {w : World} {b2 b3 b4 bp bP : Nat} {x2 x3 : Value} {e4 : Int}
theorem pres (h2 : tmps.getD 2 undef = .pointer (some ⟨b2, 0, none⟩)) (h3 : tmps.getD 3 undef = .pointer (some ⟨b3, 0, none⟩)) (h4 : tmps.getD 4 undef = .pointer (some ⟨b4, 0, none⟩)) (c2 : w.cell? ⟨b2, 0, none⟩ = some x2) (c3 : w.cell? ⟨b3, 0, none⟩ = some x3) (c4 : w.cell? ⟨b4, 0, none⟩ = some (.int .i64 e4)) :
    (results Tryz.f6 tmps).run Tryz.prog w = .ok (.tuple #[x2, x3, .int .i64 e4]) w := by
  have h2' : tmps[2]?.getD undef = .pointer (some ⟨b2, 0, none⟩) := by simpa using h2
  have h3' : tmps[3]?.getD undef = .pointer (some ⟨b3, 0, none⟩) := by simpa using h3
  have h4' : tmps[4]?.getD undef = .pointer (some ⟨b4, 0, none⟩) := by simpa using h4
  simp [results, Tryz.results6, h2', h3', h4', asAddr, c2, c3, c4, go_sem]
variable {a : Act} {R : Ending → World → Prop}
theorem pend0 (hd : a.defers = []) (h2 : a.tmps.getD 2 undef = .pointer (some ⟨b2, 0, none⟩)) (h3 : a.tmps.getD 3 undef = .pointer (some ⟨b3, 0, none⟩)) (h4 : a.tmps.getD 4 undef = .pointer (some ⟨b4, 0, none⟩)) (c2 : w.cell? ⟨b2, 0, none⟩ = some x2) (c3 : w.cell? ⟨b3, 0, none⟩ = some x3) (c4 : w.cell? ⟨b4, 0, none⟩ = some (.int .i64 e4))
    (hR : R (.returned (.tuple #[x2, x3, .int .i64 e4])) w) : bodyPostD Tryz.prog Tryz.f6 R Exit.ret a w := by
  show Leaves _ _ _ _ a.defers .returning w
  rw [hd]
  exact ⟨_, pres h2 h3 h4 c2 c3 c4, hR⟩
structure Ends (c : Cx) (w : World) (nv bv : Value) (G : Nat → Prop) (ns : List Nv) (s : Ps) (b2 b3 b4 bP : Nat) (x2 x3 x4 : Value) : Prop where
  pa : PaAt c w nv bv G ns s
  p : Blk w bP 50 [.pointer (some ⟨c.bp, 0, none⟩)]
  h2 : Blk w b2 22 [x2]
  h3 : Blk w b3 23 [x3]
  h4 : Blk w b4 24 [x4]
  base : c.B = c.bp
  l23 : b2 < b3
  l34 : b3 < b4
  l4p : b4 < c.bp
  lpP : c.bp < bP
variable {c : Cx} {nv bv : Value} {G : Nat → Prop} {ns : List Nv} {s : Ps} {x4 : Value}
theorem Ends.bads (h : Ends c w nv bv G ns s b2 b3 b4 bP x2 x3 x4) {y : Int × Nat} {r : List (Int × Nat)} (hb : s.bad = y :: r) : ∃ gb cp, bv = .slice (some ⟨gb, 0, none⟩) s.bad.length cp ∧ s.bad.length ≤ cp ∧ cp ≤ maxLen ∧ w.cell? ⟨gb, 0, none⟩ = some (.int .i64 y.1) ∧ c.bp ≤ gb ∧ ∀ (j : Nat) (u : Value), (s.bad.flatMap (badCells c.l))[j]? = some u → w.cell? ⟨gb, j, none⟩ = some u := by
  have hn : 0 < s.bad.length := by rw [hb]; simp
  obtain ⟨g, cp, hv, hg, hl⟩ := World.ownsRow.form h.pa.bad hn
  obtain ⟨A', c', hv', h1, h2⟩ := own_form h.pa.bad
  rw [hv] at hv'
  simp only [Value.slice.injEq] at hv'
  obtain ⟨_, _, rfl⟩ := hv'
  have hc : ∀ (j : Nat) (u : Value), (s.bad.flatMap (badCells c.l))[j]? = some u → w.cell? ⟨g, j, none⟩ = some u := fun j u hj => by
    have := h.pa.bad.cells (g := g) (by rw [hv]; rfl) j u hj
    rw [Go.WideShapes.add_plain] at this
    simpa using this
  exact ⟨g, cp, hv, h1, h2, hc 0 _ (by rw [hb]; rfl), by have := h.base; omega, hc⟩
theorem bad_keep {gb : Nat} {w' : World} {l : List Tok} {bad : List (Int × Nat)} (hk : Keeps (fun i => i = b2 ∨ i = b3 ∨ i = b4) w w') (hg : ¬ (gb = b2 ∨ gb = b3 ∨ gb = b4)) (hm : bad.length ≤ maxLen) (hc : ∀ (j : Nat) (u : Value), (bad.flatMap (badCells l))[j]? = some u → w.cell? ⟨gb, j, none⟩ = some u) : BadAt w' l bad (.slice (some ⟨gb, 0, none⟩) bad.length bad.length) :=
  ⟨gb, rfl, hm, fun j u hj => hk.cell (hc j u hj) hg⟩
theorem pfin (h : Ends c w nv bv G ns s b2 b3 b4 bP x2 (.slice none 0 0) (.int .i64 0)) (hd : a.defers = [{ target := .fn (.func 17) #[.pointer (some ⟨bP, 0, none⟩), .pointer (some ⟨b2, 0, none⟩), .pointer (some ⟨b3, 0, none⟩), .pointer (some ⟨b4, 0, none⟩)], args := #[] }])
    (t2 : a.tmps.getD 2 undef = .pointer (some ⟨b2, 0, none⟩)) (t3 : a.tmps.getD 3 undef = .pointer (some ⟨b3, 0, none⟩)) (t4 : a.tmps.getD 4 undef = .pointer (some ⟨b4, 0, none⟩))
    (hR0 : s.bad = [] → ∀ w', Keeps (fun _ => False) w w' → R (.returned (.tuple #[x2, .slice none 0 0, .int .i64 0])) w')
    (hR1 : ∀ y r, s.bad = y :: r → ∀ w' v, Keeps (fun i => i = b2 ∨ i = b3 ∨ i = b4) w w' → BadAt w' c.l s.bad v → R (.returned (.tuple #[.slice none 0 0, v, .int .i64 y.1])) w') :
    bodyPostD Tryz.prog Tryz.f6 R Exit.ret a w := by
  show Leaves _ _ _ _ a.defers .returning w
  rw [hd]
  have l1 := h.l23; have l2 := h.l34; have l3 := h.l4p; have l4 := h.lpP
  refine leaves_cons (f := 17) (args := #[.pointer (some ⟨bP, 0, none⟩), .pointer (some ⟨b2, 0, none⟩), .pointer (some ⟨b3, 0, none⟩), .pointer (some ⟨b4, 0, none⟩)]) (by simp) (by simp [go_sem]) ?_
  cases hb : s.bad with
  | nil =>
    obtain ⟨A, cp, hv⟩ : ∃ A cp, bv = .slice A 0 cp := by
      obtain ⟨A, cp, hv, _⟩ := own_form h.pa.bad
      rw [hb] at hv
      exact ⟨A, cp, hv⟩
    have hx := h.pa.box
    rw [hv] at hx
    refine (pcl_empty (b2 := b2) (b3 := b3) (b4 := b4) hx h.p).mono ?_
    rintro e u' w' ⟨rfl, rfl, hk⟩
    exact ⟨_, pres t2 t3 t4 (hk.cell (h.h2.cell (i := 0) rfl) (fun h => h)) (hk.cell (h.h3.cell (i := 0) rfl) (fun h => h)) (hk.cell (h.h4.cell (i := 0) rfl) (fun h => h)), hR0 hb w' hk⟩
  | cons y r =>
    obtain ⟨gb, cp, hv, h1, h2, hc, hg, hall⟩ := h.bads hb
    have hx := h.pa.box
    rw [hv] at hx
    refine (pcl_bad hx h.p (by rw [hb]; simp) h1 h2 hc h.h2 h.h3 h.h4 (by omega) (by omega) (by omega) (by omega) (by omega) (by omega)).mono ?_
    rintro e u' w' ⟨rfl, rfl, k2, k3, k4, hk⟩
    exact ⟨_, pres t2 t3 t4 (k2.cell (i := 0) rfl) (k3.cell (i := 0) rfl) (k4.cell (i := 0) rfl), hR1 y r hb w' _ hk (bad_keep hk (by omega) (Nat.le_trans h1 h2) hall)⟩
theorem ppan (h : Ends c w nv bv G ns s b2 b3 b4 bP x2 x3 x4) (hd : a.defers = [{ target := .fn (.func 17) #[.pointer (some ⟨bP, 0, none⟩), .pointer (some ⟨b2, 0, none⟩), .pointer (some ⟨b3, 0, none⟩), .pointer (some ⟨b4, 0, none⟩)], args := #[] }])
    (t2 : a.tmps.getD 2 undef = .pointer (some ⟨b2, 0, none⟩)) (t3 : a.tmps.getD 3 undef = .pointer (some ⟨b3, 0, none⟩)) (t4 : a.tmps.getD 4 undef = .pointer (some ⟨b4, 0, none⟩)) {y : Int × Nat} {r : List (Int × Nat)} (hb : s.bad = y :: r)
    (hR1 : ∀ w' v, Keeps (fun i => i = b2 ∨ i = b3 ∨ i = b4) w w' → BadAt w' c.l s.bad v → R (.returned (.tuple #[.slice none 0 0, v, .int .i64 y.1])) w') :
    bodyPostD Tryz.prog Tryz.f6 R (.panic [{ v := .iface 54 (.agg #[]), recovered := false }]) a w := by
  show Leaves _ _ _ _ a.defers (.panicking _) w
  rw [hd]
  have l1 := h.l23; have l2 := h.l34; have l3 := h.l4p; have l4 := h.lpP
  refine leaves_cons (f := 17) (args := #[.pointer (some ⟨bP, 0, none⟩), .pointer (some ⟨b2, 0, none⟩), .pointer (some ⟨b3, 0, none⟩), .pointer (some ⟨b4, 0, none⟩)]) (by simp) (by simp [go_sem]) ?_
  obtain ⟨gb, cp, hv, h1, h2, hc, hg, hall⟩ := h.bads hb
  have hx := h.pa.box
  rw [hv] at hx
  refine (pcl_pan [] hx h.p (by rw [hb]; simp) h1 h2 hc h.h2 h.h3 h.h4 (by omega) (by omega) (by omega) (by omega) (by omega) (by omega)).mono ?_
  rintro e u' w' ⟨rfl, rfl, k2, k3, k4, hk⟩
  exact ⟨_, pres t2 t3 t4 (k2.cell (i := 0) rfl) (k3.cell (i := 0) rfl) (k4.cell (i := 0) rfl), hR1 w' _ hk (bad_keep hk (by omega) (Nat.le_trans h1 h2) hall)⟩
end
end Go.Proofs.YtcjoapmodaioiaaGreatDoor
end
