/- UnifyNormal: whatever the input, the law answers true. The card ties the variable unify.sizes to the program's text. -/
import Derived.Test.YtjofndhbpglfgaaDoorNormW
import Derived.Test.YtjofndhbpglfgaaDoorWithin
import Derived.Test.YtjofndhbpglfgaaDoorHanded
import Derived.Lib.LaidTab
import Derived.LaidSub
namespace Go.Proofs.YtjofndhbpglfgaaDoor.unifyNormal
open Go.RowKit Go.Shelf Go.ChangeShapes Go.WideShapes Go.Sort Stab Go.Proofs.YtjofndhbpglfgaaDoor

def rowE : Ty := .mk 4 ⟨#[]⟩ 0 []
theorem rowE_ok {w : World} {F : Nat → Prop} : TyC w F rowE (.slice none 0 0) := ⟨by show (Lit.int .i64 4).wf = true; decide, by show (0 : Nat) ≤ maxLen; exact Nat.zero_le _, by show (Lit.int .i64 0).wf = true; decide, Sl.nil_⟩
def nA : ByteArray := ⟨#[97]⟩
def nB : ByteArray := ⟨#[98]⟩
def smp : Ty := extT nB numT (extT nA numT rowE)
theorem smp_nok : smp.Nok := .mk _ _ _ _ (fun _ => rfl) fun a ha => by
  have hn : numT.Nok := .mk _ _ _ _ (fun h => absurd h (by decide)) (fun a ha => by simp at ha)
  have hr : rowE.Nok := .mk _ _ _ _ (fun h => absurd h (by decide)) (fun a ha => by simp at ha)
  rcases List.mem_cons.1 ha with rfl | ha
  · exact hn
  · rw [List.mem_singleton.1 ha]
    exact .mk _ _ _ _ (fun _ => rfl) fun a ha => by
      rcases List.mem_cons.1 ha with rfl | ha
      · exact hn
      · rw [List.mem_singleton.1 ha]; exact hr
theorem smp_norm : (normP smp).name = nA := by
  have h1 : rowP rowE = ([], rowE) := by rw [rowP_not (t := rowE) (show (4 : Int) ≠ 5 by decide)]; rfl
  have h2 : rowP (extT nA numT rowE) = ([(nA, normP numT)], rowE) := by
    rw [rowP_ext (t := extT nA numT rowE) rfl rfl, h1]; rfl
  have h3 : rowP smp = ([(nB, normP numT), (nA, normP numT)], rowE) := by
    show rowP (extT nB numT (extT nA numT rowE)) = _
    rw [rowP_ext (t := extT nB numT (extT nA numT rowE)) rfl rfl, h2]; rfl
  have hl : ltL (nA, normP numT) (nB, normP numT) = true := by show sLt nA nB = true; unfold sLt; rw [bytesLess_eq]; decide +kernel
  have h4 : Stab.isort ltL [(nB, normP numT), (nA, normP numT)] = [(nA, normP numT), (nB, normP numT)] := by
    show Stab.merge ltL [(nB, normP numT)] (Stab.merge ltL [(nA, normP numT)] []) = _
    rw [Stab.merge_nil_right, Stab.merge_cons, if_pos hl, Stab.merge_nil_right]
  unfold normP fin
  rw [h3]
  dsimp only
  rw [h4]
  rfl

set_option maxRecDepth 100000 in
set_option maxHeartbeats 8000000 in
theorem walk (a : Ty) (av : Value) (W : World) (hT : TyC W (· < W.heap.size) a av) (hz : Szs W) :
    Calls Tryd.prog 6 #[tyV a av] W fun e w' => e = .returned (.bool true) ∧ Below W.heap.size W w' := by
  obtain ⟨A, c, rfl, _⟩ := hT.form
  obtain ⟨b0, hb0⟩ : ∃ b0, W.heap.size = b0 := ⟨_, rfl⟩
  obtain ⟨W0, hW0⟩ : ∃ W0, W.alloc (.cells #[.int .i64 a.kind, .string a.name, .int .i64 a.var, .slice A a.args.length c] 45) = W0 := ⟨_, rfl⟩
  have hk0 : Keeps (fun _ => False) W W0 := by rw [← hW0]; exact (Keeps.refl _ _).alloc _
  have hA3 : Blk W0 b0 45 [.int .i64 a.kind, .string a.name, .int .i64 a.var, .slice A a.args.length c] := by
    rw [← hW0, ← hb0]; exact Blk.new W _ [_, _, _, _]
  have hbl := hA3.lt
  have hs0 := hk0.size
  have HA3 := Lib.hid hA3
  have HTa := Lib.hid ((hT.keeps hk0 (fun _ _ h => h)).mono (fun b hb => Nat.lt_of_lt_of_le hb hs0) : TyC W0 (· < W0.heap.size) a _)
  have HZ := Lib.hid (hz.keeps hk0 (fun h => h))
  have HK0 := Lib.hid hk0
  have HW0 := Lib.hid hW0
  have HB0 := Lib.hid hb0
  unfold tyV
  clear hT hz hk0 hW0 hb0 hA3 hs0
  go_enter Tryd.func6, Tryd.ntmps6
  go_wp2_with fail
  rw [HW0.out, HB0.out]
  with_reducible refine (num_any _).mono ?_
  rintro e w1 ⟨rfl, hk1⟩
  have HK1 := Lib.hid hk1
  clear hk1
  go_wp2_with fail
  with_reducible refine (num_any _).mono ?_
  rintro e w2 ⟨rfl, hk2⟩
  have HK2 := Lib.hid (HK1.out.trans hk2 (fun _ _ h => h))
  clear hk2
  go_wp2_with fail
  refine (ext_any nA (by unfold maxLen nA; decide) w2 (fun _ => False) numT rowE (.slice none 0 0) (.slice none 0 0) num_ok rowE_ok).mono ?_
  rintro e w3 ⟨xv, rfl, hx3, hb3⟩
  have HX3 := Lib.hid hx3
  have HK3 := Lib.hid (HK2.out.trans (Keeps.of_below (X := fun _ => False) hb3) (fun _ _ h => h))
  clear hx3 hb3
  go_wp2_with fail
  refine (ext_any nB (by unfold maxLen nB; decide) w3 _ numT (extT nA numT rowE) (.slice none 0 0) xv num_ok HX3.out).mono ?_
  rintro e w4 ⟨yv, rfl, hx4, hb4⟩
  have HK4 := Lib.hid (HK3.out.trans (Keeps.of_below (X := fun _ => False) hb4) (fun _ _ h => h))
  have hx5 : TyC w4 (fun b => b < w4.heap.size) smp yv := hx4.mono (fun b hb => by have := hb4.size; rcases hb with (h | h) | h; exact h.elim; omega; omega)
  obtain ⟨Ay, cy, rfl, _⟩ := hx5.form
  have hsn := smp_nok
  have hsm := smp_norm
  have hnd : nodes smp ≤ 1048576 := by
    show nodess [numT, extT nA numT rowE] + 1 ≤ 1048576
    decide
  obtain ⟨s, hs⟩ : ∃ s, smp = s := ⟨_, rfl⟩
  have hs' : extT nB numT (extT nA numT rowE) = s := hs
  rw [hs'] 
  rw [hs] at hx5 hsn hsm hnd ⊢
  have HN4 : Hid (∀ X, Keeps (fun _ => False) w4 X → Calls Tryd.prog 29 #[.agg #[.int .i64 s.kind, .string s.name, .int .i64 s.var, .slice Ay s.args.length cy]] X
      (fun e w' => ∃ k v A n c, e = .returned (.agg #[.int .i64 k, .string ⟨#[97]⟩, .int .i64 v, .slice A n c]) ∧ Keeps (fun _ => False) w4 w')) := fun X hk =>
    (norm_all s X _ _ (hx5.keeps hk (fun _ _ h => h)) (fun i hi => by have := hk.size; omega) hsn hnd).mono fun e w' ⟨A, c, he, hT, hkk⟩ => by
      rw [hsm] at he
      exact ⟨_, _, A, _, c, he, hk.trans hkk (fun _ _ h => h)⟩
  unfold tyV
  clear hx4 hb4 hx5 hsn hsm hnd hs hs' HX3 HK1 HK2 HK3
  go_wp2_with fail
  with_reducible refine (HN4.out _ ((Keeps.refl _ _).alloc _)).mono ?_
  rintro e w5 ⟨k5, v5, A5, n5, c5, rfl, hk5⟩
  have hb5 := hk5.size
  have HK5 := Lib.hid (HK4.out.trans hk5 (fun _ _ h => h))
  clear hk5 HN4 HK4
  have hba := (HA3.out.keeps HK5.out (fun h => h))
  have hbz := hba.lt
  have a0 := hba.cell (i := 0) rfl
  have a1 := hba.cell (i := 1) rfl
  have a2 := hba.cell (i := 2) rfl
  have a3 := hba.cell (i := 3) rfl
  clear hba hbl hb5
  go_wp2_with fail
  obtain ⟨W6, hW6⟩ : ∃ W6, w5.alloc (.cells #[.int .i64 k5, .string ⟨#[97]⟩, .int .i64 v5, .slice A5 n5 c5] 45) = W6 := ⟨_, rfl⟩
  have HK6 : Hid (Keeps (fun _ => False) W0 W6) := by show Keeps _ _ _; rw [← hW6]; exact HK5.out.alloc _
  rw [hW6]
  have HW6 := Lib.hid hW6
  have hk6 := HK6.out
  clear hW6 HK5 a0 a1 a2 a3 hbz
  obtain ⟨rc, hrc⟩ : ∃ rc, (chk a 4096 false 1).1 = rc := ⟨_, rfl⟩
  obtain ⟨rr, hrr⟩ : ∃ rr, (chk a 4096 true 1).1 = rr := ⟨_, rfl⟩
  have HCK : Hid (∀ X, Keeps (fun _ => False) W0 X → Calls Tryd.prog 23 #[.agg #[.int .i64 a.kind, .string a.name, .int .i64 a.var, .slice A a.args.length c]] X (fun e w' => e = .returned (.int .i64 rc) ∧ Keeps (fun _ => False) W0 w')) := fun X hk =>
    (check_any a X _ _ (HTa.out.keeps hk (fun _ _ h => h)) (fun i hi => by have := hk.size; have hi2 : i < W0.heap.size := hi; omega) (HZ.out.keeps hk (fun h => h))).mono fun e w' ⟨he, hb⟩ => ⟨by rw [he, hrc], hk.trans (Keeps.of_below (X := fun _ => False) hb) (fun _ _ h => h)⟩
  have HCR : Hid (∀ X, Keeps (fun _ => False) W0 X → Calls Tryd.prog 30 #[.agg #[.int .i64 a.kind, .string a.name, .int .i64 a.var, .slice A a.args.length c]] X (fun e w' => e = .returned (.int .i64 rr) ∧ Keeps (fun _ => False) W0 w')) := fun X hk =>
    (checkRow_any a X _ _ (HTa.out.keeps hk (fun _ _ h => h)) (fun i hi => by have := hk.size; have hi2 : i < W0.heap.size := hi; omega) (HZ.out.keeps hk (fun h => h))).mono fun e w' ⟨he, hb⟩ => ⟨by rw [he, hrr], hk.trans (Keeps.of_below (X := fun _ => False) hb) (fun _ _ h => h)⟩
  have HRC := Lib.hid hrc
  have HRR := Lib.hid hrr
  clear hrc hrr
  by_cases h1 : rc = 0
  · have h1b : (rc != 0) = false := by rw [h1]; rfl
    have hc0 : (chk a 4096 false 1).1 = 0 := HRC.out.trans h1
    have hnod : nodes a ≤ 1048576 := by
      have := (chk_fine a _ _ _ hc0).1
      have := (chk_bound a 4096 false 1).2 hc0
      omega
    have hok : Okt a := ⟨_, _, _, hc0⟩
    clear h1 hc0
    with_reducible refine (HCK.out _ (by repeat (first | (with_reducible assumption) | (with_reducible exact Keeps.refl _ _) | (with_reducible refine Keeps.drewN ?_ _) | (with_reducible refine Keeps.drew ?_) | with_reducible refine Keeps.setCell ?_ (by first | (intro _; exact rfl) | (intro _; exact Or.inl rfl) | (intro _; exact Or.inr rfl) | (simp; done) | (simp; omega)) _ | (with_reducible refine Keeps.alloc ?_ _)))).mono ?_
    rintro e w7 ⟨rfl, hk7⟩
    have HK7 := Lib.hid hk7
    have hba := (HA3.out.keeps hk7 (fun h => h))
    have hbz := hba.lt
    have a0 := hba.cell (i := 0) rfl
    have a1 := hba.cell (i := 1) rfl
    have a2 := hba.cell (i := 2) rfl
    have a3 := hba.cell (i := 3) rfl
    clear hba
    obtain ⟨hgood, hnn, hfl⟩ := norm_law (Okt.nok _ a rfl hok)
    obtain ⟨hn1, hn2, hn3⟩ := hgood
    have hnk := Okt.nok _ a rfl hok
    obtain ⟨n, hn⟩ : ∃ n, normP a = n := ⟨_, rfl⟩
    rw [hn] at hn1 hn2 hn3 hnn hfl
    have hnb : nodes n ≤ 1048576 := by omega
    have HSM : Hid (∀ X F A c, TyC X F a (.slice A a.args.length c) → (∀ i, F i → i < X.heap.size) → ∀ B d, TyC X F n (.slice B n.args.length d) →
        Calls Tryd.prog 31 #[.agg #[.int .i64 a.kind, .string a.name, .int .i64 a.var, .slice A a.args.length c], .agg #[.int .i64 n.kind, .string n.name, .int .i64 n.var, .slice B n.args.length d]] X (fun e w' => e = .returned (.bool true) ∧ Below X.heap.size X w')) := fun X F A c h1 hF B d h2 =>
      (same_any a n X F _ _ h1 h2 hF hnk hn2 hnod hnb).mono fun e w' ⟨he, hb⟩ => ⟨by rw [he, hn, hn1, eqT_refl], hb⟩
    have HSN : Hid (∀ X F A c, TyC X F n (.slice A n.args.length c) → (∀ i, F i → i < X.heap.size) → ∀ B d, TyC X F n (.slice B n.args.length d) →
        Calls Tryd.prog 31 #[.agg #[.int .i64 n.kind, .string n.name, .int .i64 n.var, .slice A n.args.length c], .agg #[.int .i64 n.kind, .string n.name, .int .i64 n.var, .slice B n.args.length d]] X (fun e w' => e = .returned (.bool true) ∧ Below X.heap.size X w')) := fun X F A c h1 hF B d h2 =>
      (same_any n n X F _ _ h1 h2 hF hn2 hn2 hnb hnb).mono fun e w' ⟨he, hb⟩ => ⟨by rw [he, eqT_refl], hb⟩
    have HN7 : Hid (∀ X, Keeps (fun _ => False) W0 X → Calls Tryd.prog 29 #[.agg #[.int .i64 a.kind, .string a.name, .int .i64 a.var, .slice A a.args.length c]] X
        (fun e w' => ∃ A c, e = .returned (.agg #[.int .i64 n.kind, .string n.name, .int .i64 n.var, .slice A n.args.length c]) ∧ TyC w' (fun b => b < w'.heap.size) n (.slice A n.args.length c) ∧ Keeps (fun _ => False) W0 w')) := fun X hk =>
      (norm_all a X _ _ (HTa.out.keeps hk (fun _ _ h => h)) (fun i hi => by have := hk.size; have hi2 : i < W0.heap.size := hi; omega) hnk hnod).mono fun e w' ⟨A, c, he, hT, hkk⟩ => by
        rw [hn] at he hT
        exact ⟨A, c, he, hT.mono (fun b hb => hb.2), hk.trans hkk (fun _ _ h => h)⟩
    have HN8 : Hid (∀ Y A c, TyC Y (fun b => b < Y.heap.size) n (.slice A n.args.length c) → ∀ X, Keeps (fun _ => False) Y X → Calls Tryd.prog 29 #[.agg #[.int .i64 n.kind, .string n.name, .int .i64 n.var, .slice A n.args.length c]] X
        (fun e w' => ∃ A c, e = .returned (.agg #[.int .i64 n.kind, .string n.name, .int .i64 n.var, .slice A n.args.length c]) ∧ TyC w' (fun b => b < w'.heap.size) n (.slice A n.args.length c) ∧ Keeps (fun _ => False) Y w')) := fun Y A c hY X hk =>
      (norm_all n X _ _ (hY.keeps hk (fun _ _ h => h)) (fun i hi => by have := hk.size; have hi2 : i < Y.heap.size := hi; omega) hn2 hnb).mono fun e w' ⟨A, c, he, hT, hkk⟩ => by
        rw [hn1] at he hT
        exact ⟨A, c, he, hT.mono (fun b hb => hb.2), hk.trans hkk (fun _ _ h => h)⟩
    have HSR : Hid (∀ X F A c, TyC X F n (.slice A n.args.length c) → Calls Tryd.prog 32 #[.agg #[.int .i64 n.kind, .string n.name, .int .i64 n.var, .slice A n.args.length c]] X (fun e w' => e = .returned (.bool true) ∧ Below X.heap.size X w')) := fun X F A c h1 =>
      (srt_all n X F _ h1).mono fun e w' ⟨he, hb⟩ => ⟨by rw [he, hn3], hb⟩
    obtain ⟨fl, hfl2⟩ : ∃ fl, (freeP a).length = fl := ⟨_, rfl⟩
    have HFA : Hid (∀ X F A c, TyC X F a (.slice A a.args.length c) → Calls Tryd.prog 25 #[.agg #[.int .i64 a.kind, .string a.name, .int .i64 a.var, .slice A a.args.length c]] X (fun e w' => (∃ B d, e = .returned (.slice B fl d)) ∧ Below X.heap.size X w')) := fun X F A c h1 =>
      (free_any a X F _ h1 hnod).mono fun e w' ⟨u, he, hb, hS⟩ => by
        obtain ⟨B, d, rfl, _⟩ := hS.form
        rw [hfl2] at he
        exact ⟨⟨B, d, he⟩, hb⟩
    have HFN : Hid (∀ X F A c, TyC X F n (.slice A n.args.length c) → Calls Tryd.prog 25 #[.agg #[.int .i64 n.kind, .string n.name, .int .i64 n.var, .slice A n.args.length c]] X (fun e w' => (∃ B d, e = .returned (.slice B fl d)) ∧ Below X.heap.size X w')) := fun X F A c h1 =>
      (free_any n X F _ h1 hnb).mono fun e w' ⟨u, he, hb, hS⟩ => by
        obtain ⟨B, d, rfl, _⟩ := hS.form
        rw [hfl, hfl2] at he
        exact ⟨⟨B, d, he⟩, hb⟩
    clear hn1 hn2 hn3 hnk hn hnn hfl hnb hfl2 hok hnod
    go_wp2_with fail
    with_reducible refine (HN7.out _ (by repeat (first | (with_reducible assumption) | (with_reducible exact Keeps.refl _ _) | (with_reducible refine Keeps.drewN ?_ _) | (with_reducible refine Keeps.drew ?_) | with_reducible refine Keeps.setCell ?_ (by first | (intro _; exact rfl) | (intro _; exact Or.inl rfl) | (intro _; exact Or.inr rfl) | (simp; done) | (simp; omega)) _ | (with_reducible refine Keeps.alloc ?_ _)))).mono ?_
    rintro e w8 ⟨A8, c8, rfl, hT8, hk8⟩
    have HT8 := Lib.hid hT8
    have HK8 := Lib.hid hk8
    clear hT8 hk8
    obtain ⟨b8, hb8⟩ : ∃ b8, w8.heap.size = b8 := ⟨_, rfl⟩
    obtain ⟨W8, hW8⟩ : ∃ W8, w8.alloc (.cells #[.int .i64 n.kind, .string n.name, .int .i64 n.var, .slice A8 n.args.length c8] 45) = W8 := ⟨_, rfl⟩
    have hk88 : Keeps (fun _ => False) w8 W8 := by rw [← hW8]; exact (Keeps.refl _ _).alloc _
    have hn8 : Blk W8 b8 45 [.int .i64 n.kind, .string n.name, .int .i64 n.var, .slice A8 n.args.length c8] := by rw [← hW8, ← hb8]; exact Blk.new w8 _ [_, _, _, _]
    have hs88 := hk88.size
    have hT88 : TyC W8 (fun b => b < W8.heap.size) n (.slice A8 n.args.length c8) := (HT8.out.keeps hk88 (fun _ _ h => h)).mono (fun b hb => Nat.lt_of_lt_of_le hb hs88)
    have HN88 := Lib.hid (HN8.out W8 A8 c8 hT88 W8 (Keeps.refl _ _))
    have HT88 := Lib.hid hT88
    have HK88 := Lib.hid (HK8.out.trans hk88 (fun _ _ h => h))
    have HN8b := Lib.hid hn8
    have HB8 := Lib.hid hb8
    have HW8 := Lib.hid hW8
    clear hb8 hW8 hk88 hn8 hs88 hT88 HN8 HN7 a0 a1 a2 a3 hbz
    go_wp2_with fail
    rw [HW8.out, HB8.out]
    with_reducible refine HN88.out.mono ?_
    rintro e w9 ⟨A9, c9, rfl, hT9, hk9⟩
    obtain ⟨b9, hb9⟩ : ∃ b9, w9.heap.size = b9 := ⟨_, rfl⟩
    obtain ⟨W9, hW9⟩ : ∃ W9, w9.alloc (.cells #[.int .i64 n.kind, .string n.name, .int .i64 n.var, .slice A9 n.args.length c9] 45) = W9 := ⟨_, rfl⟩
    have hk99 : Keeps (fun _ => False) w9 W9 := by rw [← hW9]; exact (Keeps.refl _ _).alloc _
    have hn9 : Blk W9 b9 45 [.int .i64 n.kind, .string n.name, .int .i64 n.var, .slice A9 n.args.length c9] := by rw [← hW9, ← hb9]; exact Blk.new w9 _ [_, _, _, _]
    have hs99 := hk99.size
    have hT99 : TyC W9 (fun b => b < W9.heap.size) n (.slice A9 n.args.length c9) := (hT9.keeps hk99 (fun _ _ h => h)).mono (fun b hb => Nat.lt_of_lt_of_le hb hs99)
    have hk89 : Keeps (fun _ => False) W8 W9 := hk9.trans hk99 (fun _ _ h => h)
    have hs89 := hk89.size
    have hT89 : TyC W9 (fun b => b < W9.heap.size) n (.slice A8 n.args.length c8) := (HT88.out.keeps hk89 (fun _ _ h => h)).mono (fun b hb => Nat.lt_of_lt_of_le hb hs89)
    have hk09 : Keeps (fun _ => False) W0 W9 := HK88.out.trans hk89 (fun _ _ h => h)
    have hs09 := hk09.size
    have hTa9 : TyC W9 (fun b => b < W9.heap.size) a (.slice A a.args.length c) := (HTa.out.keeps hk09 (fun _ _ h => h)).mono (fun b hb => Nat.lt_of_lt_of_le hb hs09)
    have ha9 := HA3.out.keeps hk09 (fun h => h)
    have hn89 := HN8b.out.keeps hk89 (fun h => h)
    have H1 : Hid (∀ X, Keeps (fun _ => False) W9 X → Calls Tryd.prog 31 #[.agg #[.int .i64 a.kind, .string a.name, .int .i64 a.var, .slice A a.args.length c], .agg #[.int .i64 n.kind, .string n.name, .int .i64 n.var, .slice A8 n.args.length c8]] X (fun e w' => e = .returned (.bool true) ∧ Keeps (fun _ => False) W9 w')) := fun X hk =>
      (HSM.out X _ A c (hTa9.keeps hk (fun _ _ h => h)) (fun i hi => by have := hk.size; omega) A8 c8 (hT89.keeps hk (fun _ _ h => h))).mono fun e w' ⟨he, hb⟩ => ⟨he, hk.trans (Keeps.of_below (X := fun _ => False) hb) (fun _ _ h => h)⟩
    have H2 : Hid (∀ X, Keeps (fun _ => False) W9 X → Calls Tryd.prog 31 #[.agg #[.int .i64 n.kind, .string n.name, .int .i64 n.var, .slice A8 n.args.length c8], .agg #[.int .i64 n.kind, .string n.name, .int .i64 n.var, .slice A9 n.args.length c9]] X (fun e w' => e = .returned (.bool true) ∧ Keeps (fun _ => False) W9 w')) := fun X hk =>
      (HSN.out X _ A8 c8 (hT89.keeps hk (fun _ _ h => h)) (fun i hi => by have := hk.size; omega) A9 c9 (hT99.keeps hk (fun _ _ h => h))).mono fun e w' ⟨he, hb⟩ => ⟨he, hk.trans (Keeps.of_below (X := fun _ => False) hb) (fun _ _ h => h)⟩
    have H3 : Hid (∀ X, Keeps (fun _ => False) W9 X → Calls Tryd.prog 32 #[.agg #[.int .i64 n.kind, .string n.name, .int .i64 n.var, .slice A8 n.args.length c8]] X (fun e w' => e = .returned (.bool true) ∧ Keeps (fun _ => False) W9 w')) := fun X hk =>
      (HSR.out X _ A8 c8 (hT89.keeps hk (fun _ _ h => h))).mono fun e w' ⟨he, hb⟩ => ⟨he, hk.trans (Keeps.of_below (X := fun _ => False) hb) (fun _ _ h => h)⟩
    have H4 : Hid (∀ X, Keeps (fun _ => False) W9 X → Calls Tryd.prog 25 #[.agg #[.int .i64 n.kind, .string n.name, .int .i64 n.var, .slice A8 n.args.length c8]] X (fun e w' => ∃ B d, e = .returned (.slice B fl d) ∧ Keeps (fun _ => False) W9 w')) := fun X hk =>
      (HFN.out X _ A8 c8 (hT89.keeps hk (fun _ _ h => h))).mono fun e w' ⟨⟨B, d, he⟩, hb⟩ => ⟨B, d, he, hk.trans (Keeps.of_below (X := fun _ => False) hb) (fun _ _ h => h)⟩
    have H5 : Hid (∀ X, Keeps (fun _ => False) W9 X → Calls Tryd.prog 25 #[.agg #[.int .i64 a.kind, .string a.name, .int .i64 a.var, .slice A a.args.length c]] X (fun e w' => ∃ B d, e = .returned (.slice B fl d) ∧ Keeps (fun _ => False) W9 w')) := fun X hk =>
      (HFA.out X _ A c (hTa9.keeps hk (fun _ _ h => h))).mono fun e w' ⟨⟨B, d, he⟩, hb⟩ => ⟨B, d, he, hk.trans (Keeps.of_below (X := fun _ => False) hb) (fun _ _ h => h)⟩
    have hQ : Hid (∀ X, Keeps (fun _ => False) W9 X → (X.cell? ⟨b0, 0, none⟩ = some (.int .i64 a.kind) ∧ X.cell? ⟨b0, 1, none⟩ = some (.string a.name) ∧ X.cell? ⟨b0, 2, none⟩ = some (.int .i64 a.var) ∧ X.cell? ⟨b0, 3, none⟩ = some (.slice A a.args.length c) ∧ X.cell? ⟨b8, 0, none⟩ = some (.int .i64 n.kind) ∧ X.cell? ⟨b8, 1, none⟩ = some (.string n.name) ∧ X.cell? ⟨b8, 2, none⟩ = some (.int .i64 n.var) ∧ X.cell? ⟨b8, 3, none⟩ = some (.slice A8 n.args.length c8) ∧ X.cell? ⟨b9, 0, none⟩ = some (.int .i64 n.kind) ∧ X.cell? ⟨b9, 1, none⟩ = some (.string n.name) ∧ X.cell? ⟨b9, 2, none⟩ = some (.int .i64 n.var) ∧ X.cell? ⟨b9, 3, none⟩ = some (.slice A9 n.args.length c9))) := fun X hk =>
      ⟨hk.cell (ha9.cell (i := 0) rfl) (fun h => h), hk.cell (ha9.cell (i := 1) rfl) (fun h => h), hk.cell (ha9.cell (i := 2) rfl) (fun h => h), hk.cell (ha9.cell (i := 3) rfl) (fun h => h), hk.cell (hn89.cell (i := 0) rfl) (fun h => h), hk.cell (hn89.cell (i := 1) rfl) (fun h => h), hk.cell (hn89.cell (i := 2) rfl) (fun h => h), hk.cell (hn89.cell (i := 3) rfl) (fun h => h), hk.cell (hn9.cell (i := 0) rfl) (fun h => h), hk.cell (hn9.cell (i := 1) rfl) (fun h => h), hk.cell (hn9.cell (i := 2) rfl) (fun h => h), hk.cell (hn9.cell (i := 3) rfl) (fun h => h)⟩
    have HW9 := Lib.hid hW9
    have HB9 := Lib.hid hb9
    have HK09 := Lib.hid (HK0.out.trans hk09 (fun _ _ h => h))
    have hln : (((fl : Nat) : Int) == ((fl : Nat) : Int)) = true := by simp
    clear hT9 hk9 hk99 hn9 hs99 hT99 hk89 hs89 hT89 hk09 hs09 hTa9 ha9 hn89 hW9 hb9 hk7 hk6 HFN HFA HSR HSN HSM HN88 HCK HCR HRC HRR
    go_wp2_with fail
    rw [HW9.out, HB9.out]
    go_region_held3 (fun X => X.cell? ⟨b0, 0, none⟩ = some (.int .i64 a.kind) ∧ X.cell? ⟨b0, 1, none⟩ = some (.string a.name) ∧ X.cell? ⟨b0, 2, none⟩ = some (.int .i64 a.var) ∧ X.cell? ⟨b0, 3, none⟩ = some (.slice A a.args.length c) ∧ X.cell? ⟨b8, 0, none⟩ = some (.int .i64 n.kind) ∧ X.cell? ⟨b8, 1, none⟩ = some (.string n.name) ∧ X.cell? ⟨b8, 2, none⟩ = some (.int .i64 n.var) ∧ X.cell? ⟨b8, 3, none⟩ = some (.slice A8 n.args.length c8) ∧ X.cell? ⟨b9, 0, none⟩ = some (.int .i64 n.kind) ∧ X.cell? ⟨b9, 1, none⟩ = some (.string n.name) ∧ X.cell? ⟨b9, 2, none⟩ = some (.int .i64 n.var) ∧ X.cell? ⟨b9, 3, none⟩ = some (.slice A9 n.args.length c9))
      (exact hQ.out _ (by repeat (first | (with_reducible assumption) | (with_reducible exact Keeps.refl _ _) | (with_reducible refine Keeps.drewN ?_ _) | (with_reducible refine Keeps.drew ?_) | with_reducible refine Keeps.setCell ?_ (by first | (intro _; exact rfl) | (intro _; exact Or.inl rfl) | (intro _; exact Or.inr rfl) | (simp; done) | (simp; omega)) _ | (with_reducible refine Keeps.alloc ?_ _))))
      (first
        | (go_at_call 31; with_reducible refine (H1.out _ (by repeat (first | (with_reducible assumption) | (with_reducible exact Keeps.refl _ _) | (with_reducible refine Keeps.drewN ?_ _) | (with_reducible refine Keeps.drew ?_) | with_reducible refine Keeps.setCell ?_ (by first | (intro _; exact rfl) | (intro _; exact Or.inl rfl) | (intro _; exact Or.inr rfl) | (simp; done) | (simp; omega)) _ | (with_reducible refine Keeps.alloc ?_ _)))).mono ?_; rintro e wa ⟨rfl, hka⟩)
        | (go_at_call 31; with_reducible refine (H2.out _ (by repeat (first | (with_reducible assumption) | (with_reducible exact Keeps.refl _ _) | (with_reducible refine Keeps.drewN ?_ _) | (with_reducible refine Keeps.drew ?_) | with_reducible refine Keeps.setCell ?_ (by first | (intro _; exact rfl) | (intro _; exact Or.inl rfl) | (intro _; exact Or.inr rfl) | (simp; done) | (simp; omega)) _ | (with_reducible refine Keeps.alloc ?_ _)))).mono ?_; rintro e wb ⟨rfl, hkb⟩)
        | (go_at_call 32; with_reducible refine (H3.out _ (by repeat (first | (with_reducible assumption) | (with_reducible exact Keeps.refl _ _) | (with_reducible refine Keeps.drewN ?_ _) | (with_reducible refine Keeps.drew ?_) | with_reducible refine Keeps.setCell ?_ (by first | (intro _; exact rfl) | (intro _; exact Or.inl rfl) | (intro _; exact Or.inr rfl) | (simp; done) | (simp; omega)) _ | (with_reducible refine Keeps.alloc ?_ _)))).mono ?_; rintro e wc ⟨rfl, hkc⟩)
        | (go_at_call 25; with_reducible refine (H4.out _ (by repeat (first | (with_reducible assumption) | (with_reducible exact Keeps.refl _ _) | (with_reducible refine Keeps.drewN ?_ _) | (with_reducible refine Keeps.drew ?_) | with_reducible refine Keeps.setCell ?_ (by first | (intro _; exact rfl) | (intro _; exact Or.inl rfl) | (intro _; exact Or.inr rfl) | (simp; done) | (simp; omega)) _ | (with_reducible refine Keeps.alloc ?_ _)))).mono ?_; rintro e wd ⟨Bd, dd, rfl, hkd⟩)
        | (go_at_call 25; with_reducible refine (H5.out _ (by repeat (first | (with_reducible assumption) | (with_reducible exact Keeps.refl _ _) | (with_reducible refine Keeps.drewN ?_ _) | (with_reducible refine Keeps.drew ?_) | with_reducible refine Keeps.setCell ?_ (by first | (intro _; exact rfl) | (intro _; exact Or.inl rfl) | (intro _; exact Or.inr rfl) | (simp; done) | (simp; omega)) _ | (with_reducible refine Keeps.alloc ?_ _)))).mono ?_; rintro e we ⟨Be, de, rfl, hke⟩))
    all_goals go_wp2_with fail
    all_goals go_ret
    all_goals exact ⟨rfl, (Keeps.trans HK09.out (show Keeps (fun _ => False) W9 _ from (by repeat (first | (with_reducible assumption) | (with_reducible exact Keeps.refl _ _) | (with_reducible refine Keeps.drewN ?_ _) | (with_reducible refine Keeps.drew ?_) | with_reducible refine Keeps.setCell ?_ (by first | (intro _; exact rfl) | (intro _; exact Or.inl rfl) | (intro _; exact Or.inr rfl) | (simp; done) | (simp; omega)) _ | (with_reducible refine Keeps.alloc ?_ _)))) (fun _ _ h => h)).below (fun _ h => h.elim) (Nat.le_refl _)⟩
  · have h1b : (rc != 0) = true := by rw [bne_iff_ne]; exact h1
    by_cases h2 : rr = 0
    · have h2b : (rr != 0) = false := by rw [h2]; rfl
      have hc0 : (chk a 4096 true 1).1 = 0 := HRR.out.trans h2
      have hnod : nodes a ≤ 1048576 := by
        have := (chk_fine a _ _ _ hc0).1
        have := (chk_bound a 4096 true 1).2 hc0
        omega
      have hok : Okt a := ⟨_, _, _, hc0⟩
      clear h1 h2 hc0
      with_reducible refine (HCK.out _ (by repeat (first | (with_reducible assumption) | (with_reducible exact Keeps.refl _ _) | (with_reducible refine Keeps.drewN ?_ _) | (with_reducible refine Keeps.drew ?_) | with_reducible refine Keeps.setCell ?_ (by first | (intro _; exact rfl) | (intro _; exact Or.inl rfl) | (intro _; exact Or.inr rfl) | (simp; done) | (simp; omega)) _ | (with_reducible refine Keeps.alloc ?_ _)))).mono ?_
      rintro e w7 ⟨rfl, hk7⟩
      have HK7 := Lib.hid hk7
      have hba := (HA3.out.keeps hk7 (fun h => h))
      have hbz := hba.lt
      have a0 := hba.cell (i := 0) rfl
      have a1 := hba.cell (i := 1) rfl
      have a2 := hba.cell (i := 2) rfl
      have a3 := hba.cell (i := 3) rfl
      clear hba
      go_wp2_with fail
      with_reducible refine (HCR.out _ (by repeat (first | (with_reducible assumption) | (with_reducible exact Keeps.refl _ _) | (with_reducible refine Keeps.drewN ?_ _) | (with_reducible refine Keeps.drew ?_) | with_reducible refine Keeps.setCell ?_ (by first | (intro _; exact rfl) | (intro _; exact Or.inl rfl) | (intro _; exact Or.inr rfl) | (simp; done) | (simp; omega)) _ | (with_reducible refine Keeps.alloc ?_ _)))).mono ?_
      rintro e w7b ⟨rfl, hk7b⟩
      have HK7b := Lib.hid hk7b
      have hba := (HA3.out.keeps hk7b (fun h => h))
      have hbz := hba.lt
      have a0 := hba.cell (i := 0) rfl
      have a1 := hba.cell (i := 1) rfl
      have a2 := hba.cell (i := 2) rfl
      have a3 := hba.cell (i := 3) rfl
      clear hba
      obtain ⟨hgood, hnn, hfl⟩ := norm_law (Okt.nok _ a rfl hok)
      obtain ⟨hn1, hn2, hn3⟩ := hgood
      have hnk := Okt.nok _ a rfl hok
      obtain ⟨n, hn⟩ : ∃ n, normP a = n := ⟨_, rfl⟩
      rw [hn] at hn1 hn2 hn3 hnn hfl
      have hnb : nodes n ≤ 1048576 := by omega
      have HSM : Hid (∀ X F A c, TyC X F a (.slice A a.args.length c) → (∀ i, F i → i < X.heap.size) → ∀ B d, TyC X F n (.slice B n.args.length d) →
          Calls Tryd.prog 31 #[.agg #[.int .i64 a.kind, .string a.name, .int .i64 a.var, .slice A a.args.length c], .agg #[.int .i64 n.kind, .string n.name, .int .i64 n.var, .slice B n.args.length d]] X (fun e w' => e = .returned (.bool true) ∧ Below X.heap.size X w')) := fun X F A c h1 hF B d h2 =>
        (same_any a n X F _ _ h1 h2 hF hnk hn2 hnod hnb).mono fun e w' ⟨he, hb⟩ => ⟨by rw [he, hn, hn1, eqT_refl], hb⟩
      have HSN : Hid (∀ X F A c, TyC X F n (.slice A n.args.length c) → (∀ i, F i → i < X.heap.size) → ∀ B d, TyC X F n (.slice B n.args.length d) →
          Calls Tryd.prog 31 #[.agg #[.int .i64 n.kind, .string n.name, .int .i64 n.var, .slice A n.args.length c], .agg #[.int .i64 n.kind, .string n.name, .int .i64 n.var, .slice B n.args.length d]] X (fun e w' => e = .returned (.bool true) ∧ Below X.heap.size X w')) := fun X F A c h1 hF B d h2 =>
        (same_any n n X F _ _ h1 h2 hF hn2 hn2 hnb hnb).mono fun e w' ⟨he, hb⟩ => ⟨by rw [he, eqT_refl], hb⟩
      have HN7 : Hid (∀ X, Keeps (fun _ => False) W0 X → Calls Tryd.prog 29 #[.agg #[.int .i64 a.kind, .string a.name, .int .i64 a.var, .slice A a.args.length c]] X
          (fun e w' => ∃ A c, e = .returned (.agg #[.int .i64 n.kind, .string n.name, .int .i64 n.var, .slice A n.args.length c]) ∧ TyC w' (fun b => b < w'.heap.size) n (.slice A n.args.length c) ∧ Keeps (fun _ => False) W0 w')) := fun X hk =>
        (norm_all a X _ _ (HTa.out.keeps hk (fun _ _ h => h)) (fun i hi => by have := hk.size; have hi2 : i < W0.heap.size := hi; omega) hnk hnod).mono fun e w' ⟨A, c, he, hT, hkk⟩ => by
          rw [hn] at he hT
          exact ⟨A, c, he, hT.mono (fun b hb => hb.2), hk.trans hkk (fun _ _ h => h)⟩
      have HN8 : Hid (∀ Y A c, TyC Y (fun b => b < Y.heap.size) n (.slice A n.args.length c) → ∀ X, Keeps (fun _ => False) Y X → Calls Tryd.prog 29 #[.agg #[.int .i64 n.kind, .string n.name, .int .i64 n.var, .slice A n.args.length c]] X
          (fun e w' => ∃ A c, e = .returned (.agg #[.int .i64 n.kind, .string n.name, .int .i64 n.var, .slice A n.args.length c]) ∧ TyC w' (fun b => b < w'.heap.size) n (.slice A n.args.length c) ∧ Keeps (fun _ => False) Y w')) := fun Y A c hY X hk =>
        (norm_all n X _ _ (hY.keeps hk (fun _ _ h => h)) (fun i hi => by have := hk.size; have hi2 : i < Y.heap.size := hi; omega) hn2 hnb).mono fun e w' ⟨A, c, he, hT, hkk⟩ => by
          rw [hn1] at he hT
          exact ⟨A, c, he, hT.mono (fun b hb => hb.2), hk.trans hkk (fun _ _ h => h)⟩
      have HSR : Hid (∀ X F A c, TyC X F n (.slice A n.args.length c) → Calls Tryd.prog 32 #[.agg #[.int .i64 n.kind, .string n.name, .int .i64 n.var, .slice A n.args.length c]] X (fun e w' => e = .returned (.bool true) ∧ Below X.heap.size X w')) := fun X F A c h1 =>
        (srt_all n X F _ h1).mono fun e w' ⟨he, hb⟩ => ⟨by rw [he, hn3], hb⟩
      obtain ⟨fl, hfl2⟩ : ∃ fl, (freeP a).length = fl := ⟨_, rfl⟩
      have HFA : Hid (∀ X F A c, TyC X F a (.slice A a.args.length c) → Calls Tryd.prog 25 #[.agg #[.int .i64 a.kind, .string a.name, .int .i64 a.var, .slice A a.args.length c]] X (fun e w' => (∃ B d, e = .returned (.slice B fl d)) ∧ Below X.heap.size X w')) := fun X F A c h1 =>
        (free_any a X F _ h1 hnod).mono fun e w' ⟨u, he, hb, hS⟩ => by
          obtain ⟨B, d, rfl, _⟩ := hS.form
          rw [hfl2] at he
          exact ⟨⟨B, d, he⟩, hb⟩
      have HFN : Hid (∀ X F A c, TyC X F n (.slice A n.args.length c) → Calls Tryd.prog 25 #[.agg #[.int .i64 n.kind, .string n.name, .int .i64 n.var, .slice A n.args.length c]] X (fun e w' => (∃ B d, e = .returned (.slice B fl d)) ∧ Below X.heap.size X w')) := fun X F A c h1 =>
        (free_any n X F _ h1 hnb).mono fun e w' ⟨u, he, hb, hS⟩ => by
          obtain ⟨B, d, rfl, _⟩ := hS.form
          rw [hfl, hfl2] at he
          exact ⟨⟨B, d, he⟩, hb⟩
      clear hn1 hn2 hn3 hnk hn hnn hfl hnb hfl2 hok hnod
      go_wp2_with fail
      with_reducible refine (HN7.out _ (by repeat (first | (with_reducible assumption) | (with_reducible exact Keeps.refl _ _) | (with_reducible refine Keeps.drewN ?_ _) | (with_reducible refine Keeps.drew ?_) | with_reducible refine Keeps.setCell ?_ (by first | (intro _; exact rfl) | (intro _; exact Or.inl rfl) | (intro _; exact Or.inr rfl) | (simp; done) | (simp; omega)) _ | (with_reducible refine Keeps.alloc ?_ _)))).mono ?_
      rintro e w8 ⟨A8, c8, rfl, hT8, hk8⟩
      have HT8 := Lib.hid hT8
      have HK8 := Lib.hid hk8
      clear hT8 hk8
      obtain ⟨b8, hb8⟩ : ∃ b8, w8.heap.size = b8 := ⟨_, rfl⟩
      obtain ⟨W8, hW8⟩ : ∃ W8, w8.alloc (.cells #[.int .i64 n.kind, .string n.name, .int .i64 n.var, .slice A8 n.args.length c8] 45) = W8 := ⟨_, rfl⟩
      have hk88 : Keeps (fun _ => False) w8 W8 := by rw [← hW8]; exact (Keeps.refl _ _).alloc _
      have hn8 : Blk W8 b8 45 [.int .i64 n.kind, .string n.name, .int .i64 n.var, .slice A8 n.args.length c8] := by rw [← hW8, ← hb8]; exact Blk.new w8 _ [_, _, _, _]
      have hs88 := hk88.size
      have hT88 : TyC W8 (fun b => b < W8.heap.size) n (.slice A8 n.args.length c8) := (HT8.out.keeps hk88 (fun _ _ h => h)).mono (fun b hb => Nat.lt_of_lt_of_le hb hs88)
      have HN88 := Lib.hid (HN8.out W8 A8 c8 hT88 W8 (Keeps.refl _ _))
      have HT88 := Lib.hid hT88
      have HK88 := Lib.hid (HK8.out.trans hk88 (fun _ _ h => h))
      have HN8b := Lib.hid hn8
      have HB8 := Lib.hid hb8
      have HW8 := Lib.hid hW8
      clear hb8 hW8 hk88 hn8 hs88 hT88 HN8 HN7 a0 a1 a2 a3 hbz
      go_wp2_with fail
      rw [HW8.out, HB8.out]
      with_reducible refine HN88.out.mono ?_
      rintro e w9 ⟨A9, c9, rfl, hT9, hk9⟩
      obtain ⟨b9, hb9⟩ : ∃ b9, w9.heap.size = b9 := ⟨_, rfl⟩
      obtain ⟨W9, hW9⟩ : ∃ W9, w9.alloc (.cells #[.int .i64 n.kind, .string n.name, .int .i64 n.var, .slice A9 n.args.length c9] 45) = W9 := ⟨_, rfl⟩
      have hk99 : Keeps (fun _ => False) w9 W9 := by rw [← hW9]; exact (Keeps.refl _ _).alloc _
      have hn9 : Blk W9 b9 45 [.int .i64 n.kind, .string n.name, .int .i64 n.var, .slice A9 n.args.length c9] := by rw [← hW9, ← hb9]; exact Blk.new w9 _ [_, _, _, _]
      have hs99 := hk99.size
      have hT99 : TyC W9 (fun b => b < W9.heap.size) n (.slice A9 n.args.length c9) := (hT9.keeps hk99 (fun _ _ h => h)).mono (fun b hb => Nat.lt_of_lt_of_le hb hs99)
      have hk89 : Keeps (fun _ => False) W8 W9 := hk9.trans hk99 (fun _ _ h => h)
      have hs89 := hk89.size
      have hT89 : TyC W9 (fun b => b < W9.heap.size) n (.slice A8 n.args.length c8) := (HT88.out.keeps hk89 (fun _ _ h => h)).mono (fun b hb => Nat.lt_of_lt_of_le hb hs89)
      have hk09 : Keeps (fun _ => False) W0 W9 := HK88.out.trans hk89 (fun _ _ h => h)
      have hs09 := hk09.size
      have hTa9 : TyC W9 (fun b => b < W9.heap.size) a (.slice A a.args.length c) := (HTa.out.keeps hk09 (fun _ _ h => h)).mono (fun b hb => Nat.lt_of_lt_of_le hb hs09)
      have ha9 := HA3.out.keeps hk09 (fun h => h)
      have hn89 := HN8b.out.keeps hk89 (fun h => h)
      have H1 : Hid (∀ X, Keeps (fun _ => False) W9 X → Calls Tryd.prog 31 #[.agg #[.int .i64 a.kind, .string a.name, .int .i64 a.var, .slice A a.args.length c], .agg #[.int .i64 n.kind, .string n.name, .int .i64 n.var, .slice A8 n.args.length c8]] X (fun e w' => e = .returned (.bool true) ∧ Keeps (fun _ => False) W9 w')) := fun X hk =>
        (HSM.out X _ A c (hTa9.keeps hk (fun _ _ h => h)) (fun i hi => by have := hk.size; omega) A8 c8 (hT89.keeps hk (fun _ _ h => h))).mono fun e w' ⟨he, hb⟩ => ⟨he, hk.trans (Keeps.of_below (X := fun _ => False) hb) (fun _ _ h => h)⟩
      have H2 : Hid (∀ X, Keeps (fun _ => False) W9 X → Calls Tryd.prog 31 #[.agg #[.int .i64 n.kind, .string n.name, .int .i64 n.var, .slice A8 n.args.length c8], .agg #[.int .i64 n.kind, .string n.name, .int .i64 n.var, .slice A9 n.args.length c9]] X (fun e w' => e = .returned (.bool true) ∧ Keeps (fun _ => False) W9 w')) := fun X hk =>
        (HSN.out X _ A8 c8 (hT89.keeps hk (fun _ _ h => h)) (fun i hi => by have := hk.size; omega) A9 c9 (hT99.keeps hk (fun _ _ h => h))).mono fun e w' ⟨he, hb⟩ => ⟨he, hk.trans (Keeps.of_below (X := fun _ => False) hb) (fun _ _ h => h)⟩
      have H3 : Hid (∀ X, Keeps (fun _ => False) W9 X → Calls Tryd.prog 32 #[.agg #[.int .i64 n.kind, .string n.name, .int .i64 n.var, .slice A8 n.args.length c8]] X (fun e w' => e = .returned (.bool true) ∧ Keeps (fun _ => False) W9 w')) := fun X hk =>
        (HSR.out X _ A8 c8 (hT89.keeps hk (fun _ _ h => h))).mono fun e w' ⟨he, hb⟩ => ⟨he, hk.trans (Keeps.of_below (X := fun _ => False) hb) (fun _ _ h => h)⟩
      have H4 : Hid (∀ X, Keeps (fun _ => False) W9 X → Calls Tryd.prog 25 #[.agg #[.int .i64 n.kind, .string n.name, .int .i64 n.var, .slice A8 n.args.length c8]] X (fun e w' => ∃ B d, e = .returned (.slice B fl d) ∧ Keeps (fun _ => False) W9 w')) := fun X hk =>
        (HFN.out X _ A8 c8 (hT89.keeps hk (fun _ _ h => h))).mono fun e w' ⟨⟨B, d, he⟩, hb⟩ => ⟨B, d, he, hk.trans (Keeps.of_below (X := fun _ => False) hb) (fun _ _ h => h)⟩
      have H5 : Hid (∀ X, Keeps (fun _ => False) W9 X → Calls Tryd.prog 25 #[.agg #[.int .i64 a.kind, .string a.name, .int .i64 a.var, .slice A a.args.length c]] X (fun e w' => ∃ B d, e = .returned (.slice B fl d) ∧ Keeps (fun _ => False) W9 w')) := fun X hk =>
        (HFA.out X _ A c (hTa9.keeps hk (fun _ _ h => h))).mono fun e w' ⟨⟨B, d, he⟩, hb⟩ => ⟨B, d, he, hk.trans (Keeps.of_below (X := fun _ => False) hb) (fun _ _ h => h)⟩
      have hQ : Hid (∀ X, Keeps (fun _ => False) W9 X → (X.cell? ⟨b0, 0, none⟩ = some (.int .i64 a.kind) ∧ X.cell? ⟨b0, 1, none⟩ = some (.string a.name) ∧ X.cell? ⟨b0, 2, none⟩ = some (.int .i64 a.var) ∧ X.cell? ⟨b0, 3, none⟩ = some (.slice A a.args.length c) ∧ X.cell? ⟨b8, 0, none⟩ = some (.int .i64 n.kind) ∧ X.cell? ⟨b8, 1, none⟩ = some (.string n.name) ∧ X.cell? ⟨b8, 2, none⟩ = some (.int .i64 n.var) ∧ X.cell? ⟨b8, 3, none⟩ = some (.slice A8 n.args.length c8) ∧ X.cell? ⟨b9, 0, none⟩ = some (.int .i64 n.kind) ∧ X.cell? ⟨b9, 1, none⟩ = some (.string n.name) ∧ X.cell? ⟨b9, 2, none⟩ = some (.int .i64 n.var) ∧ X.cell? ⟨b9, 3, none⟩ = some (.slice A9 n.args.length c9))) := fun X hk =>
        ⟨hk.cell (ha9.cell (i := 0) rfl) (fun h => h), hk.cell (ha9.cell (i := 1) rfl) (fun h => h), hk.cell (ha9.cell (i := 2) rfl) (fun h => h), hk.cell (ha9.cell (i := 3) rfl) (fun h => h), hk.cell (hn89.cell (i := 0) rfl) (fun h => h), hk.cell (hn89.cell (i := 1) rfl) (fun h => h), hk.cell (hn89.cell (i := 2) rfl) (fun h => h), hk.cell (hn89.cell (i := 3) rfl) (fun h => h), hk.cell (hn9.cell (i := 0) rfl) (fun h => h), hk.cell (hn9.cell (i := 1) rfl) (fun h => h), hk.cell (hn9.cell (i := 2) rfl) (fun h => h), hk.cell (hn9.cell (i := 3) rfl) (fun h => h)⟩
      have HW9 := Lib.hid hW9
      have HB9 := Lib.hid hb9
      have HK09 := Lib.hid (HK0.out.trans hk09 (fun _ _ h => h))
      have hln : (((fl : Nat) : Int) == ((fl : Nat) : Int)) = true := by simp
      clear hT9 hk9 hk99 hn9 hs99 hT99 hk89 hs89 hT89 hk09 hs09 hTa9 ha9 hn89 hW9 hb9 hk7 hk6 HFN HFA HSR HSN HSM HN88 HCK HCR HRC HRR
      go_wp2_with fail
      rw [HW9.out, HB9.out]
      go_region_held3 (fun X => X.cell? ⟨b0, 0, none⟩ = some (.int .i64 a.kind) ∧ X.cell? ⟨b0, 1, none⟩ = some (.string a.name) ∧ X.cell? ⟨b0, 2, none⟩ = some (.int .i64 a.var) ∧ X.cell? ⟨b0, 3, none⟩ = some (.slice A a.args.length c) ∧ X.cell? ⟨b8, 0, none⟩ = some (.int .i64 n.kind) ∧ X.cell? ⟨b8, 1, none⟩ = some (.string n.name) ∧ X.cell? ⟨b8, 2, none⟩ = some (.int .i64 n.var) ∧ X.cell? ⟨b8, 3, none⟩ = some (.slice A8 n.args.length c8) ∧ X.cell? ⟨b9, 0, none⟩ = some (.int .i64 n.kind) ∧ X.cell? ⟨b9, 1, none⟩ = some (.string n.name) ∧ X.cell? ⟨b9, 2, none⟩ = some (.int .i64 n.var) ∧ X.cell? ⟨b9, 3, none⟩ = some (.slice A9 n.args.length c9))
        (exact hQ.out _ (by repeat (first | (with_reducible assumption) | (with_reducible exact Keeps.refl _ _) | (with_reducible refine Keeps.drewN ?_ _) | (with_reducible refine Keeps.drew ?_) | with_reducible refine Keeps.setCell ?_ (by first | (intro _; exact rfl) | (intro _; exact Or.inl rfl) | (intro _; exact Or.inr rfl) | (simp; done) | (simp; omega)) _ | (with_reducible refine Keeps.alloc ?_ _))))
        (first
          | (go_at_call 31; with_reducible refine (H1.out _ (by repeat (first | (with_reducible assumption) | (with_reducible exact Keeps.refl _ _) | (with_reducible refine Keeps.drewN ?_ _) | (with_reducible refine Keeps.drew ?_) | with_reducible refine Keeps.setCell ?_ (by first | (intro _; exact rfl) | (intro _; exact Or.inl rfl) | (intro _; exact Or.inr rfl) | (simp; done) | (simp; omega)) _ | (with_reducible refine Keeps.alloc ?_ _)))).mono ?_; rintro e wa ⟨rfl, hka⟩)
          | (go_at_call 31; with_reducible refine (H2.out _ (by repeat (first | (with_reducible assumption) | (with_reducible exact Keeps.refl _ _) | (with_reducible refine Keeps.drewN ?_ _) | (with_reducible refine Keeps.drew ?_) | with_reducible refine Keeps.setCell ?_ (by first | (intro _; exact rfl) | (intro _; exact Or.inl rfl) | (intro _; exact Or.inr rfl) | (simp; done) | (simp; omega)) _ | (with_reducible refine Keeps.alloc ?_ _)))).mono ?_; rintro e wb ⟨rfl, hkb⟩)
          | (go_at_call 32; with_reducible refine (H3.out _ (by repeat (first | (with_reducible assumption) | (with_reducible exact Keeps.refl _ _) | (with_reducible refine Keeps.drewN ?_ _) | (with_reducible refine Keeps.drew ?_) | with_reducible refine Keeps.setCell ?_ (by first | (intro _; exact rfl) | (intro _; exact Or.inl rfl) | (intro _; exact Or.inr rfl) | (simp; done) | (simp; omega)) _ | (with_reducible refine Keeps.alloc ?_ _)))).mono ?_; rintro e wc ⟨rfl, hkc⟩)
          | (go_at_call 25; with_reducible refine (H4.out _ (by repeat (first | (with_reducible assumption) | (with_reducible exact Keeps.refl _ _) | (with_reducible refine Keeps.drewN ?_ _) | (with_reducible refine Keeps.drew ?_) | with_reducible refine Keeps.setCell ?_ (by first | (intro _; exact rfl) | (intro _; exact Or.inl rfl) | (intro _; exact Or.inr rfl) | (simp; done) | (simp; omega)) _ | (with_reducible refine Keeps.alloc ?_ _)))).mono ?_; rintro e wd ⟨Bd, dd, rfl, hkd⟩)
          | (go_at_call 25; with_reducible refine (H5.out _ (by repeat (first | (with_reducible assumption) | (with_reducible exact Keeps.refl _ _) | (with_reducible refine Keeps.drewN ?_ _) | (with_reducible refine Keeps.drew ?_) | with_reducible refine Keeps.setCell ?_ (by first | (intro _; exact rfl) | (intro _; exact Or.inl rfl) | (intro _; exact Or.inr rfl) | (simp; done) | (simp; omega)) _ | (with_reducible refine Keeps.alloc ?_ _)))).mono ?_; rintro e we ⟨Be, de, rfl, hke⟩))
      all_goals go_wp2_with fail
      all_goals go_ret
      all_goals exact ⟨rfl, (Keeps.trans HK09.out (show Keeps (fun _ => False) W9 _ from (by repeat (first | (with_reducible assumption) | (with_reducible exact Keeps.refl _ _) | (with_reducible refine Keeps.drewN ?_ _) | (with_reducible refine Keeps.drew ?_) | with_reducible refine Keeps.setCell ?_ (by first | (intro _; exact rfl) | (intro _; exact Or.inl rfl) | (intro _; exact Or.inr rfl) | (simp; done) | (simp; omega)) _ | (with_reducible refine Keeps.alloc ?_ _)))) (fun _ _ h => h)).below (fun _ h => h.elim) (Nat.le_refl _)⟩
    · have h2b : (rr != 0) = true := by rw [bne_iff_ne]; exact h2
      clear h1 h2
      with_reducible refine (HCK.out _ (by repeat (first | (with_reducible assumption) | (with_reducible exact Keeps.refl _ _) | (with_reducible refine Keeps.drewN ?_ _) | (with_reducible refine Keeps.drew ?_) | with_reducible refine Keeps.setCell ?_ (by first | (intro _; exact rfl) | (intro _; exact Or.inl rfl) | (intro _; exact Or.inr rfl) | (simp; done) | (simp; omega)) _ | (with_reducible refine Keeps.alloc ?_ _)))).mono ?_
      rintro e w7 ⟨rfl, hk7⟩
      have HK7 := Lib.hid hk7
      have hba := (HA3.out.keeps hk7 (fun h => h))
      have hbz := hba.lt
      have a0 := hba.cell (i := 0) rfl
      have a1 := hba.cell (i := 1) rfl
      have a2 := hba.cell (i := 2) rfl
      have a3 := hba.cell (i := 3) rfl
      clear hba
      go_wp2_with fail
      with_reducible refine (HCR.out _ (by repeat (first | (with_reducible assumption) | (with_reducible exact Keeps.refl _ _) | (with_reducible refine Keeps.drewN ?_ _) | (with_reducible refine Keeps.drew ?_) | with_reducible refine Keeps.setCell ?_ (by first | (intro _; exact rfl) | (intro _; exact Or.inl rfl) | (intro _; exact Or.inr rfl) | (simp; done) | (simp; omega)) _ | (with_reducible refine Keeps.alloc ?_ _)))).mono ?_
      rintro e w7b ⟨rfl, hk7b⟩
      have HK7b := Lib.hid hk7b
      have hba := (HA3.out.keeps hk7b (fun h => h))
      have hbz := hba.lt
      have a0 := hba.cell (i := 0) rfl
      have a1 := hba.cell (i := 1) rfl
      have a2 := hba.cell (i := 2) rfl
      have a3 := hba.cell (i := 3) rfl
      clear hba
      go_wp2_with fail
      go_ret
      exact ⟨rfl, (HK0.out.trans HK7b.out (fun _ _ h => h)).below (fun _ h => h.elim) (Nat.le_refl _)⟩

theorem own : ownKnob Tryd.prog.godebug = none := by kernel_rfl
theorem gSizes : Tryd.prog.globalNamed "provenance/unify.sizes" = some 0 := by kernel_rfl
theorem szs_of_laid {W : World} (h : laidMetH Tryd.prog Rows.unifyNormalRow.laid W) : Szs W := by
  have h2 : laidMetH Tryd.prog [("provenance/unify.sizes", Lib.tabData .i64 [0, -1, 3, 1, 0, 2])] W := h
  rw [MakeChecks.laidMetH_plain _ _ _ (by kernel_rfl)] at h2
  have ht := Lib.tabIs_of_head gSizes (by kernel_rfl) Tryd.underlying112 Tryd.underlying3 (by kernel_rfl) (by kernel_rfl) h2
  unfold Lib.TabIs at ht
  exact ⟨by rw [World.var?_cell gSizes ht]; rfl, by rw [World.var?_cell gSizes ht]; rfl, by rw [World.var?_cell gSizes ht]; rfl, by rw [World.var?_cell gSizes ht]; rfl, by rw [World.var?_cell gSizes ht]; rfl, by rw [World.var?_cell gSizes ht]; rfl⟩

theorem laid : laidOutB Tryd.prog = true := by kernel_rfl

set_option maxRecDepth 100000 in
theorem lifted (os : Os) (started : os.Started) (H : Type) (enc : TypeId × Value → H) :
    ReturnsInHanded {} Tryd.checked os 6 .any (fun w args => (Rows.unifyNormalSpec.pre enc Tryd.prog Tryd.f6 [] false w args ∧ laidMetH Tryd.prog Rows.unifyNormalRow.laid w) ∧ sizedMet enc Tryd.prog Tryd.f6 (OpenSpec.ofChange Rows.unifyNormalSpec) false w args)
      (Rows.unifyNormalSpec.post enc Tryd.prog Tryd.f6 false true false false) := by
  refine handed_shaped_laid (C := Tryd.checked) (L := Rows.unifyNormalRow.laid) own started (by kernel_rfl) Tryd.func6
    (ChangeSpec.witness_shaped (enc := enc) (C := Tryd.checked) (os := os) (X := fun w _ => laidMetH Tryd.prog Rows.unifyNormalRow.laid w) false (World.laidAll Tryd.prog os Rows.unifyNormalRow.laid) #[.agg #[.int .i64 0, .string ⟨#[]⟩, .int .i64 0, .slice none 0 0]] 8 (World.laidAll_os _ _ _)
      (World.shaped_of_ZipB (by kernel_rfl) (by kernel_rfl)) (by kernel_rfl) (by kernel_rfl) (by kernel_rfl)
      (by rw [MakeChecks.laidMetH_plain _ _ _ (by kernel_rfl)]; exact laidMet_laidAll _ (by kernel_rfl) (by kernel_rfl))) ?_
  intro W base args ds gs before hval0 hW hsz0 _ hlaid
  have hz := szs_of_laid hlaid
  have hval : ∀ (j : Nat) t v, Tryd.f6.params[j]? = some t → args[j]? = some v → Value.okWide Tryd.prog W .any base t v := hval0
  have hW' := hW
  obtain ⟨p, q, hA0, hV, hbef, hfz, hnd⟩ := hW
  have hA : DataW.TrodAll enc Tryd.prog W 0 (fun _ => true) true Tryd.f6.params.toList args.toList ds p := hA0
  rw [Tryd.params6] at hA hval
  obtain ⟨v0, vs0, d0, ds0, p0, q0, hargs, hds, rfl, h0, r0⟩ := trodAll_cons hA
  obtain ⟨rfl, rfl, rfl⟩ := trodAll_nil r0
  obtain rfl : args = #[v0] := by cases args; simp_all
  obtain ⟨rfl, _⟩ := trodVars_none hV
  subst hds
  obtain ⟨a0, c0, rfl, s0⟩ := rp_of_arg (f := tyD) Tryd.underlying45 (fun _ _ _ h => tyD.of_trod _ h) (hval 0 45 v0 rfl rfl) h0
  obtain ⟨av0, rfl, T0⟩ := tyD.rp.1 s0
  refine (walk a0 av0 W T0 hz).mono fun e W' ⟨he, hb⟩ => ?_
  subst he
  exact ⟨_, rfl, law_post laid (by kernel_rfl) rfl Tryd.underlying4 rfl rfl rfl rfl hW' hb⟩

theorem over : Rows.unifyNormalRow.holds Tryd.pinned (OpenSpec.ofChange Rows.unifyNormalSpec) :=
  OpenClaim.holds_of_wide 6 Tryd.f6 rfl rfl rfl rfl rfl rfl rfl ⟨rfl, rfl, rfl, rfl, rfl⟩ rfl rfl rfl rfl rfl (by kernel_rfl) Tryd.func6 (by kernel_rfl)
    (of_decide_eq_true (by kernel_rfl)) (by unfold Func.isWrapper; first | (rw [if_pos (by decide +kernel)]; kernel_rfl) | (rw [if_neg (by decide +kernel)]; exact ⟨rfl, rfl⟩))
    (fun os started H enc _ => lifted os started H enc)

theorem proved : Rows.UnifyNormalCardSaid :=
  Claim7.holds_tied_plain_at .later [] [.data] true Rows.unifyNormalCard.stood.harness false over (fun _ h => by cases h) (by kernel_rfl) (fun _ h => by cases h) unifyNormal_row_tie rfl ⟨rfl, rfl⟩ (by kernel_rfl) rfl
    (fun f fn hf hfn => by
      obtain rfl : f = 6 := Option.some.inj ((show Tryd.prog.funcNamed Tryd.f6.name = some 6 by kernel_rfl).symm.trans hf) |>.symm
      obtain rfl : fn = Tryd.f6 := (Option.some.inj (Tryd.func6.symm.trans hfn)).symm
      exact ⟨by kernel_rfl, fun j t ht => by
        rw [Tryd.params6] at ht
        have hm : t ∈ [45] := by simpa using Array.mem_of_getElem? ht
        have hall : ([45].all fun u => !Tryd.prog.wantsStandIn u) = true := by kernel_rfl
        exact (show Tryd.prog.wantsStandIn t = false by simpa using List.all_eq_true.1 hall t hm)⟩)
    (by kernel_rfl)
#print axioms proved
end Go.Proofs.YtjofndhbpglfgaaDoor.unifyNormal

